/- Part 18 of 33 of the proof of the law: contracts of the functions that it reaches, and plain facts. Conditions: those that each contract names. -/
import Derived.RangeFuncNested
import Derived.RangeFuncBound
import Derived.RangeFuncCalls
import Derived.RangeFuncLeaves
import Derived.RangeFuncBox
import Derived.RangeFuncWrites
import Derived.RangeFuncFrom
import Derived.Shelf.Abstract
import Derived.Shelf.RegionOpen
import Derived.OwnWalkIn
import Derived.TacticsInMore
import Derived.LoopNIn
import Derived.LoopIn
import Derived.Laws.EntriesVeiled
import Derived.Test.YtaegjpancbmppaaGreatDoorSumB17
set_option linter.unusedVariables false
set_option linter.unusedSimpArgs false
namespace Go.Proofs.YtaegjpancbmppaaGreatDoor
open Go.RowKit Go.Shelf
attribute [local go_sem] Oper.semAt_some
structure Fz where
 k : Int
 a : Int
 A : Option Addr
 n : Nat
 c : Nat
def Fz.v (z : Fz) : Value := .agg #[.int .i64 z.k, .int .i64 z.a, .slice z.A z.n z.c]
def Fz.sh (z : Fz) : Int × Int × Nat := (z.k, z.a, z.n)
abbrev FzQ (Q : Int → Int → Nat → Prop) : Type := { z : Fz // Q z.k z.a z.n }
def FzQ.sh {Q : Int → Int → Nat → Prop} (z : FzQ Q) : Int × Int × Nat := z.1.sh
mutual
def Fm.nodes : Fm → List (Int × Int × Nat)
 | .nd k a l => (k, a, l.length) :: nodesL l
def nodesL : List Fm → List (Int × Int × Nat)
 | [] => []
 | t :: l => t.nodes ++ nodesL l
end
theorem Fm.nodes_eq (t : Fm) : t.nodes = (t.k, t.a, t.l.length) :: nodesL t.l := by cases t; rw [Fm.nodes]; rfl
theorem nodesL_take {l : List Fm} {i : Nat} (h : i < l.length) : nodesL (l.take (i + 1)) = nodesL (l.take i) ++ (l[i]).nodes := by
 have hap : ∀ (a b : List Fm), nodesL (a ++ b) = nodesL a ++ nodesL b := by
  intro a b
  induction a with
  | nil => rw [nodesL]; simp
  | cons x a ih => rw [List.cons_append, nodesL, nodesL, ih, List.append_assoc]
 rw [List.take_succ_eq_append_getElem h, hap, nodesL, nodesL, List.append_nil]
mutual
theorem Fm.nodes_len : ∀ t : Fm, t.nodes.length = t.size
 | .nd k a l => by rw [Fm.nodes, Fm.size, List.length_cons, nodesL_len l]; omega
theorem nodesL_len : ∀ l : List Fm, (nodesL l).length = sizeL l
 | [] => by rw [nodesL, sizeL]; rfl
 | t :: l => by rw [nodesL, sizeL, List.length_append, Fm.nodes_len t, nodesL_len l]
end
def Fm.all (Q : Int → Int → Nat → Prop) (t : Fm) : Prop := ∀ x ∈ t.nodes, Q x.1 x.2.1 x.2.2
theorem Fm.all_root {Q : Int → Int → Nat → Prop} {t : Fm} (h : t.all Q) : Q t.k t.a t.l.length := h (t.k, t.a, t.l.length) (by rw [t.nodes_eq]; exact List.mem_cons_self)
theorem nodesL_mem : ∀ {l : List Fm} {t : Fm} {x : Int × Int × Nat}, t ∈ l → x ∈ t.nodes → x ∈ nodesL l
 | y :: l, t, x, h, hx => by
  rw [nodesL]
  rcases List.mem_cons.1 h with rfl | h
  ·exact List.mem_append_left _ hx
  ·exact List.mem_append_right _ (nodesL_mem h hx)
theorem Fm.all_kid {Q : Int → Int → Nat → Prop} {t s : Fm} (h : t.all Q) (hs : s ∈ t.l) : s.all Q := fun x hx => h x (by rw [t.nodes_eq]; exact List.mem_cons_of_mem _ (nodesL_mem hs hx))
def KpF (n₀ : Nat) (W W' : World) : Prop := Below n₀ W W' ∧ ∀ (b : Nat) (cs : Array Value) (t : TypeId) (fr : Nat × Nat), W.heap[b]? = some (Obj.cells cs t fr) → (t = 53 ∨ t = 143) → W'.heap[b]? = W.heap[b]?
theorem KpF.refl (n₀ : Nat) (W : World) : KpF n₀ W W := ⟨Below.refl _ _, fun _ _ _ _ _ _ => rfl⟩
theorem KpF.trans {n₀ : Nat} {A B C : World} (h : KpF n₀ A B) (k : KpF n₀ B C) : KpF n₀ A C :=
 ⟨h.1.trans k.1, fun b cs t fr hb ht => (k.2 b cs t fr ((h.2 b cs t fr hb ht).trans hb) ht).trans (h.2 b cs t fr hb ht)⟩
theorem KpF.below {n₀ : Nat} {W W' : World} (h : Below W.heap.size W W') (hn : n₀ ≤ W.heap.size) : KpF n₀ W W' :=
 ⟨h.mono hn, fun b cs t fr hb _ => h.block b (Array.getElem?_eq_some_iff.1 hb).1⟩
theorem KpF.blk {n₀ g : Nat} {W W' : World} {t : TypeId} {cs : List Value} (h : KpF n₀ W W') (hb : Blk W g t cs) (ht : t = 53 ∨ t = 143) : Blk W' g t cs := (h.2 g _ t _ hb ht).trans hb
theorem yield_any {m m' : Nat} {P : Program} {l : Nat} {args : Array Value} {W : World} {R : Ending → World → Prop} (h : YieldAt Fence.wide m P l args W R) : YieldAt Fence.wide m' P l args W R := by
 obtain ⟨fn, tmps, assign, body, hy, hr⟩ := h
 exact ⟨fn, tmps, assign, body, hy, hr.1, fun c cs _ => hr.2 c cs (room_wide _)⟩
def NdPost (Q : Int → Int → Nat → Prop) (n₀ : Nat) (J Jx : List (FzQ Q) → World → Prop) (pre : List (FzQ Q)) (t : Fm) (W : World) (e : Ending) (W' : World) : Prop :=
 (e = .returned (.bool true) ∧ ∃ ys : List (FzQ Q), ys.map FzQ.sh = t.nodes ∧ J (pre ++ ys) W' ∧ KpF n₀ W W') ∨ (e = .returned (.bool false) ∧ ∃ p', Jx p' W')
set_option maxRecDepth 1000000 in
set_option maxHeartbeats 8000000 in
theorem nodes1_any (Q : Int → Int → Nat → Prop) (n₀ l tb N n₁ : Nat) (hN : N ≤ 10000) (J Jx : List (FzQ Q) → World → Prop) (hJ : AbidesFrom n₁ J)
  (hY : ∀ pre x W, J pre W → pre.length < N → YieldAt Fence.wide 4 Tryz.prog l #[x.1.v] W fun e W' => (e = .returned (.bool true) ∧ J (pre ++ [x]) W' ∧ KpF n₀ W W') ∨ (e = .returned (.bool false) ∧ Jx (pre ++ [x]) W')) :
  ∀ (F : Nat) (t : Fm) (A : Option Addr) (c : Nat) (pre : List (FzQ Q)) (W : World), t.size ≤ F → t.all Q → FsR W (lowB n₀) A t.l → n₀ ≤ W.heap.size → Blk W tb 143 [.func (.func 95) #[] #[.pointer (some ⟨tb, 0, none⟩)]] → J pre W → pre.length + t.size ≤ N →
  Calls Tryz.prog 95 #[.agg (fcL t.k t.a A t.l.length c).toArray, .func (.yield l) #[] #[], .pointer (some ⟨tb, 0, none⟩)] W (NdPost Q n₀ J Jx pre t W) := by
 intro F
 induction F with
 | zero => intro t A c pre W h; have := size_pos t; omega
 | succ F ih =>
  intro t A c pre W hF hall hA hn0 hT hj hlen
  have HALL := Lib.hid hall
  have HKID := Lib.hid (fun s (hs : s ∈ t.l) => Fm.all_kid hall hs)
  have hq := Fm.all_root hall
  clear hall
  have HIH := Lib.hid ih
  have HT := Lib.hid hT
  obtain ⟨k, a, ls⟩ := t
  have HA := Lib.hid (show FsR W (lowB n₀) A ls from hA)
  have HKIDS := Lib.hid (show ∀ s ∈ ls, s.all Q from HKID.out)
  replace hq : Q k a ls.length := hq
  have hsz : (Fm.nd k a ls).size = 1 + sizeL ls := Fm.size_eq _
  have HNE := Lib.hid (show (Fm.nd k a ls).nodes = (k, a, ls.length) :: nodesL ls from Fm.nodes_eq _)
  rw [hsz] at hF hlen
  have hll := len_size ls
  obtain ⟨n, hn⟩ : ∃ n, n = ls.length := ⟨_, rfl⟩
  show Calls Tryz.prog 95 #[.agg #[.int .i64 k, .int .i64 a, .slice A ls.length c], .func (.yield l) #[] #[], .pointer (some ⟨tb, 0, none⟩)] W _
  rw [← hn] at HNE hq ⊢
  have HQ := Lib.hid hq
  clear hq
  have hb0 := bw_new (Below.refl W.heap.size W) (.cells (fcL k a A n c).toArray 53)
  have hj0 : J pre (W.alloc (.cells (fcL k a A n c).toArray 53)) := hJ _ _ _ none hj (World.grownBy_alloc _ _ _) (fun r e => by cases e)
  obtain ⟨fn, tmps, assign, body, hy, hR⟩ := hY pre ⟨⟨k, a, A, n, c⟩, HQ.out⟩ _ hj0 (by omega)
  have HP := Lib.hid (And.intro hF (And.intro hlen (And.intro hn hn0)))
  have hbk : Blk (W.alloc (.cells (fcL k a A n c).toArray 53)) W.heap.size 53 (fcL k a A n c) := heap_alloc_new W _
  have HBK := Lib.hid hbk
  have HB0 := Lib.hid hb0
  have hn1 : n ≤ 10000 := by omega
  have hy' : (Instr.yield l #[.agg #[.int .i64 k, .int .i64 a, .slice A n c]]).run Tryz.prog (W.alloc (.cells #[.int .i64 k, .int .i64 a, .slice A n c] 53)) = .ok (.round l fn tmps assign body) (W.alloc (.cells #[.int .i64 k, .int .i64 a, .slice A n c] 53)) := hy
  have HRR := Lib.hid hR
  clear ih hF hA hT hj hlen hll hn hsz hb0 hj0 hbk hn0 hy hR
  refine (callsIn_wide (n := 5)).1 ?_
  refine callsIn_of_wp Tryz.func95 rfl trivial ?_ rfl
  simp only [Tryz.ntmps95, List.size_toArray, List.length_cons, List.length_nil, Nat.reduceAdd, Nat.reduceSub, Array.replicate_succ, Array.replicate_zero, List.push_toArray, List.append_toArray, List.nil_append, List.cons_append]
  gi_wp2_with fail
  refine HRR.out.mono ?_
  rintro e W3 (⟨rfl, hJ4, hk3⟩ | ⟨rfl, hJx3⟩)
  ·have HJ4 := Lib.hid hJ4
   have HK3 := Lib.hid ((KpF.below HB0.out HP.out.2.2.2).trans hk3)
   have HBK3 := Lib.hid (hk3.blk HBK.out (.inl rfl))
   have q2 : W3.cell? ⟨W.heap.size, 2, none⟩ = some (.slice A n c) := HBK3.out.cell 2
   clear hJ4 hk3 hy'
   gi_wp2_with fail
   gi_loopw [15] (fun x wr => ∃ (i : Nat) (ys : List (FzQ Q)), i ≤ n ∧ x = .int .i64 (i : Int) ∧ ys.map FzQ.sh = (k, a, n) :: nodesL (ls.take i) ∧ J (pre ++ ys) wr ∧ KpF n₀ W wr) (fun x _ => n - (intOf x).toNat)
   case atStart => exact ⟨0, [⟨⟨k, a, A, n, c⟩, HQ.out⟩], Nat.zero_le _, rfl, by rw [show ls.take 0 = [] from rfl, nodesL]; rfl, HJ4.out, HK3.out⟩
   case round =>
    obtain ⟨i, ys, hi, rfl, hys, hj, hkp⟩ := hrel
    have HYS := Lib.hid hys
    have HJ := Lib.hid hj
    have HKP := Lib.hid hkp
    clear hys hj hkp q2
    by_cases hil : i < n
    ·have hiL : i < ls.length := by rw [← HP.out.2.2.1]; exact hil
     obtain ⟨g, off, As, cs, hA, hg, hcc, hkk⟩ := (HA.out.lowK HKP.out.1).at_ (by omega)
     obtain ⟨q0, q1, q2, -⟩ := hcc i hiL
     have hkid := hkk i hiL
     have hsm := size_mem (List.getElem_mem hiL)
     have hst := sizeL_take hiL
     have hsl := sizeL_le (l := ls) (i + 1)
     have hnt := nodesL_take hiL
     have hyl := congrArg List.length HYS.out
     rw [List.length_map, List.length_cons, nodesL_len] at hyl
     obtain ⟨t, ht⟩ : ∃ t, t = ls[i] := ⟨_, rfl⟩
     have hall' := HKIDS.out _ (List.getElem_mem hiL)
     rw [← ht] at q0 q1 q2 hkid hsm hst hnt hall'
     obtain ⟨nc, hnc⟩ : ∃ n, n = t.l.length := ⟨_, rfl⟩
     obtain ⟨k', hk'⟩ : ∃ z, z = t.k := ⟨_, rfl⟩
     obtain ⟨a', ha'⟩ : ∃ z, z = t.a := ⟨_, rfl⟩
     obtain ⟨A', hA'⟩ : ∃ z, z = As i := ⟨_, rfl⟩
     obtain ⟨c', hc'⟩ : ∃ z, z = cs i := ⟨_, rfl⟩
     rw [← hk'] at q0
     rw [← ha'] at q1
     rw [← hA', ← hc', ← hnc] at q2
     rw [← hA'] at hkid
     subst hA
     have hbx := bw_new (Below.refl wr.heap.size wr) (.cells (fcL k' a' A' nc c').toArray 53)
     have hn0w : n₀ ≤ wr.heap.size := Nat.le_trans HP.out.2.2.2 HKP.out.1.size
     have htb : Blk wr tb 143 [.func (.func 95) #[] #[.pointer (some ⟨tb, 0, none⟩)]] := HKP.out.blk HT.out (.inr rfl)
     have q3 : wr.cell? ⟨tb, 0, none⟩ = some (.func (.func 95) #[] #[.pointer (some ⟨tb, 0, none⟩)]) := htb.cell 0
     have hcall := HIH.out t A' c' (pre ++ ys) (wr.alloc (.cells (fcL k' a' A' nc c').toArray 53)) (by have := HP.out.1; omega) hall' (hkid.keep fun b hb => hbx.block b (Nat.lt_of_lt_of_le hb hn0w)) (Nat.le_trans hn0w hbx.size) ((hbx.block tb htb.lt).trans htb) (hJ _ _ _ none HJ.out (World.grownBy_alloc _ _ _) (fun r e => by cases e)) (by rw [List.length_append, hyl]; have := HP.out.2.1; omega)
     rw [← hk', ← ha', ← hnc] at hcall
     have HCALL := Lib.hid (show Calls Tryz.prog 95 #[.agg #[.int .i64 k', .int .i64 a', .slice A' nc c'], .func (.yield l) #[] #[], .pointer (some ⟨tb, 0, none⟩)] (wr.alloc (.cells #[.int .i64 k', .int .i64 a', .slice A' nc c'] 53)) _ from hcall)
     have hilz : (i : Int) < (n : Int) := by omega
     obtain ⟨i2, hi2⟩ : ∃ z : Int, z = (i : Int) + 1 := ⟨_, rfl⟩
     have hwi : IntKind.i64.wrap ((i : Int) + 1) = i2 := by rw [hi2]; exact IntWalk.i64_in _ (by omega)
     have HI2 := Lib.hid hi2
     have HIL := Lib.hid hil
     have HNT := Lib.hid hnt
     have HBX := Lib.hid (KpF.below hbx hn0w)
     have htl : tb < wr.heap.size := htb.lt
     clear hall' hiL hcc hkk hkid hsm hst hsl hnt hyl ht hnc hk' ha' hA' hc' hbx hn0w htb hcall hi2 hil hi hg
     gi_wp2_with fail
     refine ⟨trivial, ?_⟩
     refine (callsIn_wide.2 HCALL.out).mono ?_
     rintro e W4 (⟨rfl, ys', hys', hj4, hk4⟩ | ⟨rfl, p', hx4⟩)
     ·have HY4 := Lib.hid hys'
      have HJ5 := Lib.hid hj4
      have HK5 := Lib.hid ((HKP.out.trans HBX.out).trans hk4)
      clear hys' hj4 hk4 q0 q1 q2 q3
      gi_wp2_with fail
      go_roundw
      case rel => exact ⟨i + 1, ys ++ ys', by have := HIL.out; omega, by rw [HI2.out]; rfl, by rw [List.map_append, HYS.out, HY4.out, HNT.out]; rfl, by rw [← List.append_assoc]; exact HJ5.out, HK5.out⟩
      case measure => have := HIL.out; have := HI2.out; simp only [intOf]; omega
     ·have HX4 := Lib.hid hx4
      clear hx4 q0 q1 q2 q3
      gi_wp2_with fail
      exact bodyPost_ret (v := .bool false) (by simp [results, Tryz.results95, go_sem]) rfl (.inr ⟨rfl, p', HX4.out⟩)
    ·obtain rfl : i = n := by omega
     have hkn : ¬ (i : Int) < (i : Int) := by omega
     have HFIN := Lib.hid (show ys.map FzQ.sh = (Fm.nd k a ls).nodes by
      rw [HNE.out, HYS.out, List.take_of_length_le (by rw [HP.out.2.2.1]; exact Nat.le_refl _)])
     clear hil hi
     gi_wp2_with fail
     exact bodyPost_ret (v := .bool true) (by simp [results, Tryz.results95, go_sem]) rfl (.inl ⟨rfl, ys, HFIN.out, HJ.out, HKP.out⟩)
  ·have HX := Lib.hid hJx3
   clear hJx3 hy'
   gi_wp2_with fail
   exact bodyPost_ret (v := .bool false) (by simp [results, Tryz.results95, go_sem]) rfl (.inr ⟨rfl, _, HX.out⟩)
end Go.Proofs.YtaegjpancbmppaaGreatDoor
namespace Go.Proofs.YtaegjpancbmppaaGreatDoor
open Go.RowKit Go.Shelf
attribute [local go_sem] Oper.semAt_some
set_option maxRecDepth 1000000 in
set_option maxHeartbeats 4000000 in
theorem nodes_stops (Q : Int → Int → Nat → Prop) (n : Nat) (hn : 2 ≤ n) (n₀ tb fb : Nat) (t : Fm) (A : Option Addr) (c : Nat) (w : World) (ht : t.size ≤ 10000) (hall : t.all Q) (hA : FsR w (lowB n₀) A t.l) (hn0 : n₀ ≤ w.heap.size) (hT : Blk w tb 143 [.func (.func 95) #[] #[.pointer (some ⟨tb, 0, none⟩)]]) (hFb : Blk w fb 53 (fcL t.k t.a A t.l.length c)) :
  SeqStopsK Fence.wide n Tryz.prog 96 #[.pointer (some ⟨tb, 0, none⟩), .pointer (some ⟨fb, 0, none⟩)] (fun x : FzQ Q => #[x.1.v]) (KpF n₀) (fun ys => ys.map FzQ.sh = t.nodes) (fun _ => True) 10000 w := fun l J Jx W hW hJ hJx hY h0 => by
 have hT' : Blk W tb 143 [.func (.func 95) #[] #[.pointer (some ⟨tb, 0, none⟩)]] := (hW.block tb hT.lt).trans hT
 have hF' : Blk W fb 53 (fcL t.k t.a A t.l.length c) := (hW.block fb hFb.lt).trans hFb
 have hcall := nodes1_any Q n₀ l tb 10000 W.heap.size (Nat.le_refl _) J Jx hJ (fun pre x W hj hl => yield_any (hY pre x W hj hl)) 10000 t A c [] W ht hall (hA.keep fun b hb => hW.block b (Nat.lt_of_lt_of_le hb hn0)) (Nat.le_trans hn0 hW.size) hT' h0 (by simpa using ht)
 obtain ⟨nl, hnl⟩ : ∃ n, n = t.l.length := ⟨_, rfl⟩
 obtain ⟨k, hk⟩ : ∃ n, n = t.k := ⟨_, rfl⟩
 obtain ⟨a, ha⟩ : ∃ n, n = t.a := ⟨_, rfl⟩
 rw [← hk, ← ha, ← hnl] at hF' hcall
 have HCALL := Lib.hid (show Calls Tryz.prog 95 #[.agg #[.int .i64 k, .int .i64 a, .slice A nl c], .func (.yield l) #[] #[], .pointer (some ⟨tb, 0, none⟩)] W _ from hcall)
 have q0 := hF'.cell 0
 have q1 := hF'.cell 1
 have q2 := hF'.cell 2
 have q3 := hT'.cell 0
 clear hcall hk ha hnl hT' hF' hY hJ hJx h0 hFb hT hA hW
 refine (callsIn_wide (n := 5)).1 ?_ |> (callsIn_wide (n := n)).2
 refine callsIn_of_wp Tryz.func96 rfl trivial ?_ rfl
 simp only [Tryz.ntmps96, List.size_toArray, List.length_cons, List.length_nil, Nat.reduceAdd, Nat.reduceSub, Array.replicate_succ, Array.replicate_zero, List.push_toArray, List.append_toArray, List.nil_append, List.cons_append]
 gi_wp2_with fail
 refine ⟨trivial, ?_⟩
 refine (callsIn_wide.2 HCALL.out).mono ?_
 rintro e W4 (⟨rfl, ys', hys', hj4, hk4⟩ | ⟨rfl, p', hx4⟩)
 ·gi_wp2_with fail
  go_end0
  exact ⟨⟨_, rfl⟩, .inl ⟨ys', hys', hj4⟩⟩
 ·gi_wp2_with fail
  go_end0
  exact ⟨⟨_, rfl⟩, .inr ⟨p', trivial, hx4⟩⟩
def NsPost (k a : Int) (A : Option Addr) (n c : Nat) (W : World) (e : Ending) (W' : World) : Prop :=
 ∃ tb fb, e = .returned (.func (.func 96) #[] #[.pointer (some ⟨tb, 0, none⟩), .pointer (some ⟨fb, 0, none⟩)]) ∧ Below W.heap.size W W' ∧
  Blk W' tb 143 [.func (.func 95) #[] #[.pointer (some ⟨tb, 0, none⟩)]] ∧ Blk W' fb 53 (fcL k a A n c)
set_option maxRecDepth 1000000 in
set_option maxHeartbeats 4000000 in
theorem inodes_any (k a : Int) (A : Option Addr) (n c : Nat) (W : World) : Calls Tryz.prog 79 #[.agg #[.int .i64 k, .int .i64 a, .slice A n c]] W (NsPost k a A n c W) := by
 go_enter Tryz.func79, Tryz.ntmps79
 go_wp2_with fail
 go_ret
 have hb := bw_new (Below.refl W.heap.size W) (.cells (fcL k a A n c).toArray 53)
 have hn : Blk (W.alloc (.cells (fcL k a A n c).toArray 53)) W.heap.size 53 (fcL k a A n c) := heap_alloc_new W _
 have hb2 := bw_new hb (.cells #[.func (.func 95) #[] #[.pointer (some ⟨W.heap.size + 1, 0, none⟩)]] 143)
 have hb3 := bw_new (Below.refl _ (W.alloc (.cells (fcL k a A n c).toArray 53))) (.cells #[.func (.func 95) #[] #[.pointer (some ⟨W.heap.size + 1, 0, none⟩)]] 143)
 refine ⟨W.heap.size + 1, W.heap.size, by simp, hb2, ?_, (hb3.block _ hn.lt).trans hn⟩
 have := heap_alloc_new (W.alloc (.cells (fcL k a A n c).toArray 53)) (.cells #[.func (.func 95) #[] #[.pointer (some ⟨W.heap.size + 1, 0, none⟩)]] 143)
 rw [show (W.alloc (.cells (fcL k a A n c).toArray 53)).heap.size = W.heap.size + 1 by simp] at this
 exact this
end Go.Proofs.YtaegjpancbmppaaGreatDoor
namespace Go.Proofs.YtaegjpancbmppaaGreatDoor
open Go.RowKit
def nodeOK (k a : Int) (n : Nat) : Prop := (k = 1 ∧ 0 ≤ a ∧ a < 4096 ∧ n = 0) ∨ (k = 2 ∧ a = 0 ∧ n = 1) ∨ ((k = 3 ∨ k = 4) ∧ a = 0 ∧ n ≤ 10000) ∨ ((k = 5 ∨ k = 6) ∧ a = 0 ∧ n = 0)
def SgPost (E : Int) (W : World) (e : Ending) (W' : World) : Prop := e = .returned (.int .i64 E) ∧ Below W.heap.size W W'
set_option maxRecDepth 1000000 in
set_option maxHeartbeats 4000000 in
theorem isingle_any (k a : Int) (A : Option Addr) (n c : Nat) (W : World) (h : nodeOK k a n) : Calls Tryz.prog 80 #[.agg #[.int .i64 k, .int .i64 a, .slice A n c]] W (SgPost 0 W) := by
 have HB := Lib.hid (bw_new (Below.refl W.heap.size W) (.cells #[.int .i64 k, .int .i64 a, .slice A n c] 53))
 go_enter Tryz.func80, Tryz.ntmps80
 rcases h with ⟨rfl, h1, h2, rfl⟩ | ⟨rfl, rfl, rfl⟩ | ⟨rfl | rfl, rfl, hn⟩ | ⟨rfl | rfl, rfl, rfl⟩
 ·have h3 : decide (a < 0) = false := by simpa using h1
  have h4 : decide (a ≥ 4096) = false := by simpa using h2
  go_wp2_with fail
  go_ret
  exact ⟨rfl, HB.out⟩
 ·go_wp2_with fail
  go_ret
  exact ⟨rfl, HB.out⟩
 ·have h3 : decide ((n : Int) < 0) = false := by simp
  have h4 : decide ((n : Int) > 10000) = false := by simp; omega
  go_wp2_with fail
  go_ret
  exact ⟨rfl, HB.out⟩
 ·have h3 : decide ((n : Int) < 0) = false := by simp
  have h4 : decide ((n : Int) > 10000) = false := by simp; omega
  go_wp2_with fail
  go_ret
  exact ⟨rfl, HB.out⟩
 ·go_wp2_with fail
  go_ret
  exact ⟨rfl, HB.out⟩
 ·go_wp2_with fail
  go_ret
  exact ⟨rfl, HB.out⟩
end Go.Proofs.YtaegjpancbmppaaGreatDoor
namespace Go.Proofs.YtaegjpancbmppaaGreatDoor
open Go.RowKit Go.Shelf
attribute [local go_sem] Oper.semAt_some
theorem blk_own {β : Type} (B : Nat) (t : TypeId) (cs : List Value) : Own (fun (_ : β) W => Blk W B t cs) := fun s X Y row hs hg hrow =>
 (hg.block B hs.lt (fun e => by obtain ⟨o, ho, hc⟩ := hrow B e.symm; rw [show X.heap[B]? = _ from hs] at ho; cases ho; cases hc)).trans hs
theorem kf_below {B : Nat} {W W' : World} (h : Below W.heap.size W W') : KeepsFrom B W W' := ⟨h.size, fun k o _ hk _ => (h.block k (Array.getElem?_eq_some_iff.1 hk).1).trans hk⟩
theorem kpF_putObj {n₀ : Nat} {w : World} (hn : n₀ ≤ w.heap.size) (W : World) (l : Nat) (o o' : Obj) (hl : w.heap.size ≤ l) (h : W.heap[l]? = some o) (hc : o.isCells = false) (hw : o.isWalk = false) : KpF n₀ W (W.putObj l o') :=
 ⟨belowK_b hn W l o o' hl h hc hw, fun b cs t fr hb _ => (grownBy_putObj' W l o').block b (Array.getElem?_eq_some_iff.1 hb).1 (fun e => by cases e; rw [hb] at h; cases h; cases hc)⟩
def ckX (k a : Int) (A : Option Addr) (n c : Nat) (W : World) : World := ((W.alloc (.cells #[.int .i64 k, .int .i64 a, .slice A n c] 53)).alloc (.cells #[.int .i64 0] 29)).alloc (.cells #[.int .i64 0, .int .i64 0] 126)
theorem ckX_facts (k a : Int) (A : Option Addr) (n c : Nat) (W : World) : Below W.heap.size W (ckX k a A n c W) ∧ (ckX k a A n c W).heap.size = W.heap.size + 3 ∧ Blk (ckX k a A n c W) W.heap.size 53 (fcL k a A n c) ∧
  Blk (ckX k a A n c W) (W.heap.size + 1) 29 [.int .i64 0] ∧ MsAt (ckX k a A n c W) (W.heap.size + 2) 0 := by
 obtain ⟨X1, hX1⟩ : ∃ X, X = W.alloc (.cells (fcL k a A n c).toArray 53) := ⟨_, rfl⟩
 obtain ⟨X2, hX2⟩ : ∃ X, X = X1.alloc (.cells #[.int .i64 0] 29) := ⟨_, rfl⟩
 obtain ⟨X3, hX3⟩ : ∃ X, X = X2.alloc (.cells #[.int .i64 0, .int .i64 0] 126) := ⟨_, rfl⟩
 have e : ckX k a A n c W = X3 := by rw [hX3, hX2, hX1]; rfl
 have s1 : X1.heap.size = W.heap.size + 1 := by rw [hX1]; simp
 have s2 : X2.heap.size = W.heap.size + 2 := by rw [hX2]; simp [s1]
 have s3 : X3.heap.size = W.heap.size + 3 := by rw [hX3]; simp [s2]
 have b1 : Below W.heap.size W X1 := by rw [hX1]; exact bw_new (Below.refl _ _) _
 have b2 : Below X1.heap.size X1 X2 := by rw [hX2]; exact bw_new (Below.refl _ _) _
 have b3 : Below X2.heap.size X2 X3 := by rw [hX3]; exact bw_new (Below.refl _ _) _
 have l1 : Blk X1 W.heap.size 53 (fcL k a A n c) := by rw [hX1]; exact heap_alloc_new W _
 have l2 : Blk X2 X1.heap.size 29 [.int .i64 0] := by rw [hX2]; exact heap_alloc_new X1 _
 have l3 : Blk X3 X2.heap.size 126 [.int .i64 0, .int .i64 0] := by rw [hX3]; exact heap_alloc_new X2 _
 rw [e]
 refine ⟨(b1.trans (b2.mono (by omega))).trans (b3.mono (by omega)), s3, ?_, ?_, ?_⟩
 ·exact (b3.block _ (by omega)).trans ((b2.block _ (by omega)).trans l1)
 ·rw [← s1]; exact (b3.block _ (by omega)).trans l2
 ·rw [← s2]; exact ⟨0, l3⟩
set_option maxRecDepth 1000000 in
set_option maxHeartbeats 4000000 in
theorem fcheck_in (t : Fm) (A : Option Addr) (c : Nat) (W : World) (hs : t.size ≤ 10000) (hd : t.depth ≤ 100) (hall : t.all nodeOK) (hA : FsR W (lowB W.heap.size) A t.l) :
  CallsIn Fence.wide 8 Tryz.prog 63 #[.agg (fcL t.k t.a A t.l.length c).toArray] W (SgPost 0 W) := by
 have HS := Lib.hid (And.intro hs (And.intro hd (And.intro hall hA)))
 obtain ⟨nl, hnl⟩ : ∃ n, n = t.l.length := ⟨_, rfl⟩
 obtain ⟨k, hk⟩ : ∃ n, n = t.k := ⟨_, rfl⟩
 obtain ⟨a, ha⟩ : ∃ n, n = t.a := ⟨_, rfl⟩
 rw [← hk, ← ha, ← hnl]
 have HE := Lib.hid (And.intro hk (And.intro ha hnl))
 have hX := ckX_facts k a A nl c W
 obtain ⟨X, hXe⟩ : ∃ X, X = ckX k a A nl c W := ⟨_, rfl⟩
 rw [← hXe] at hX
 have HX := Lib.hid hX
 have hm := imeasure_any (W.heap.size + 2) 10000 t A c 0 1 X hs ((hA.lowK hX.1).mono fun b hb => ⟨by rw [hX.2.1]; show b < _; have : b < W.heap.size := hb; omega, by have : b < W.heap.size := hb; omega⟩) hX.2.2.2.2 (by omega) (by omega)
 rw [← hk, ← ha, ← hnl] at hm
 have HM := Lib.hid (show Calls Tryz.prog 78 #[.agg #[.int .i64 k, .int .i64 a, .slice A nl c], .int .i64 1, .pointer (some ⟨W.heap.size + 1 + 1, 0, none⟩)] (((W.alloc (.cells #[.int .i64 k, .int .i64 a, .slice A nl c] 53)).alloc (.cells #[.int .i64 0] 29)).alloc (.cells #[.int .i64 0, .int .i64 0] 126)) (MsPost (W.heap.size + 2) (0 + t.size) X) from by subst hXe; exact hm)
 have HXE := Lib.hid hXe
 clear hs hd hall hA hk ha hnl hX hm hXe
 show CallsIn Fence.wide 8 Tryz.prog 63 #[.agg #[.int .i64 k, .int .i64 a, .slice A nl c]] W _
 refine callsIn_of_wp_marks Tryz.func63 rfl trivial ?_ rfl
 simp only [Tryz.ntmps63, List.size_toArray, List.length_cons, List.length_nil, Nat.reduceAdd, Nat.reduceSub, Array.replicate_succ, Array.replicate_zero, List.push_toArray, List.append_toArray, List.nil_append, List.cons_append]
 gi_wp2_with fail
 refine ⟨trivial, ?_⟩
 refine (callsIn_wide.2 HM.out).mono ?_
 rintro e W1 ⟨rfl, hch, -⟩
 have HF1 := Lib.hid (show Blk W1 W.heap.size 53 (fcL k a A nl c) from (hch.block _ (by rw [HX.out.2.1]; omega) (by omega)).trans HX.out.2.2.1)
 have HR1 := Lib.hid (show Blk W1 (W.heap.size + 1) 29 [.int .i64 0] from (hch.block _ (by rw [HX.out.2.1]; omega) (by omega)).trans HX.out.2.2.2.1)
 have HB1 := Lib.hid (HX.out.1.trans (hch.below (by omega) (by rw [HX.out.2.1]; omega)))
 have HN := Lib.hid (inodes_any k a A nl c W1)
 have q0 := HF1.out.cell 0
 have q1 := HF1.out.cell 1
 have q2 := HF1.out.cell 2
 clear hch
 gi_wp2_with fail
 refine ⟨trivial, ?_⟩
 refine (callsIn_wide.2 HN.out).mono ?_
 rintro e W2 ⟨tb, fb, rfl, hb, hT, hF⟩
 have HB2 := Lib.hid hb
 have HR2 := Lib.hid ((hb.block _ HR1.out.lt).trans HR1.out)
 have HT := Lib.hid hT
 have HF := Lib.hid hF
 clear hb hT hF q0 q1 q2
 gi_wp2_with fail
 have hall : t.all nodeOK := HS.out.2.2.1
 have hFs : FsR W2 (lowB W.heap.size) A t.l := HS.out.2.2.2.lowK (HB1.out.trans (HB2.out.mono HB1.out.size))
 have hn2 : W.heap.size ≤ W2.heap.size := Nat.le_trans HB1.out.size HB2.out.size
 refine wpIn_rangeFunc_ownH rfl (by omega) (gf := 96) (lb := #[.pointer (some ⟨tb, 0, none⟩), .pointer (some ⟨fb, 0, none⟩)]) rfl trivial (enters_of Tryz.func96 (by kernel_rfl) rfl)
  (nodes_stops nodeOK 7 (by omega) W.heap.size tb fb t A c W2 HS.out.1 hall hFs hn2 HT.out (by have := HF.out; rw [HE.out.1, HE.out.2.1, HE.out.2.2] at this; exact this)) KpF.trans (kpF_putObj hn2) (Below.refl _ _) (fun _ => rfl)
  (fun _ Wr => Below W.heap.size W Wr ∧ Blk Wr (W.heap.size + 1) 29 [.int .i64 0]) (fun _ _ _ => False)
  (OwnFrom.and (ownFrom_below (Nat.le_refl _) hn2) (Own.from (blk_own _ _ _) _)) (fun _ _ _ _ _ hs _ _ => hs)
  ⟨HB1.out.trans (HB2.out.mono HB1.out.size), HR2.out⟩
  (fun x a' Wr => ∃ b, Blk Wr b 53 (fcL x.1.k x.1.a x.1.A x.1.n x.1.c) ∧ a' = { tmps := #[.agg #[.int .i64 k, .int .i64 a, .slice A nl c], .pointer (some ⟨W.heap.size, 0, none⟩), .pointer (some ⟨W.heap.size + 1, 0, none⟩), .pointer (some ⟨b, 0, none⟩), undef, .agg #[.int .i64 k, .int .i64 a, .slice A nl c], .agg #[.int .i64 0, .int .i64 0], .pointer (some ⟨W.heap.size + 1 + 1, 0, none⟩), .bool true, .bool false, .agg #[.int .i64 k, .int .i64 a, .slice A nl c], .func (.func 96) #[] #[.pointer (some ⟨tb, 0, none⟩), .pointer (some ⟨fb, 0, none⟩)], .agg #[.int .i64 x.1.k, .int .i64 x.1.a, .slice x.1.A x.1.n x.1.c], undef, undef, undef, undef, undef], defers := [] })
  (fun x a' _ X Y row hs hg hrow => by obtain ⟨b, hb, e⟩ := hs; exact ⟨b, (Own.from (blk_own b _ _) W2.heap.size) () X Y row hb hg hrow, e⟩) ?assign ?body ?done ?stop
 case assign =>
  rintro l pre ⟨⟨xk, xa, xA, xn, xc⟩, hx⟩ Wr K hI hK
  have HI := Lib.hid hI
  have HK := Lib.hid hK
  clear hI hK
  simp only [Fz.v]
  gi_wp2_with fail
  have hbn := bw_new (Below.refl Wr.heap.size Wr) (.cells #[.int .i64 xk, .int .i64 xa, .slice xA xn xc] 53)
  have hnw : W.heap.size ≤ Wr.heap.size := HI.out.1.size
  exact HK.out _ _ (kf_below hbn) (KpF.below hbn hnw) ⟨HI.out.1.trans (hbn.mono hnw), (hbn.block _ HI.out.2.lt).trans HI.out.2⟩ ⟨Wr.heap.size, heap_alloc_new Wr _, rfl⟩
 case body =>
  rintro l pre ⟨⟨xk, xa, xA, xn, xc⟩, hx⟩ a' Wr - - hI ⟨b, hb, rfl⟩ -
  have HI := Lib.hid hI
  have HSG := Lib.hid (isingle_any xk xa xA xn xc Wr hx)
  have q0 : Wr.cell? ⟨b, 0, none⟩ = some (.int .i64 xk) := hb.cell 0
  have q1 : Wr.cell? ⟨b, 1, none⟩ = some (.int .i64 xa) := hb.cell 1
  have q2 : Wr.cell? ⟨b, 2, none⟩ = some (.slice xA xn xc) := hb.cell 2
  clear hI hb
  gi_wp2_with fail
  refine ⟨trivial, ?_⟩
  refine (CallsIn.inRound l (callsIn_wide.2 HSG.out)).mono ?_
  rintro e W3 ⟨rfl, hb3⟩
  have hnw : W.heap.size ≤ Wr.heap.size := HI.out.1.size
  have HB3 := Lib.hid hb3
  clear hb3 q0 q1 q2
  gi_wp2_with fail
  exact ⟨kf_below HB3.out, KpF.below HB3.out hnw, HI.out.1.trans (HB3.out.mono hnw), (HB3.out.block _ HI.out.2.lt).trans HI.out.2⟩
 case done =>
  rintro D ys Wr hD - ⟨hB, hR⟩ hK
  have q : Wr.cell? ⟨W.heap.size + 1, 0, none⟩ = some (.int .i64 0) := hR.cell 0
  have qf : Wr.frozen? ⟨W.heap.size + 1, 0, none⟩ = false := hR.frozen 0
  have hlt : W.heap.size + 1 < W2.heap.size := Blk.lt HR2.out
  have HR := Lib.hid hR
  have HB := Lib.hid hB
  clear hB hR
  gi_wp2_with fail
  have hset : Blk (Wr.setCell ⟨W.heap.size + 1, 0, none⟩ (.int .i64 0)) (W.heap.size + 1) 29 [.int .i64 0] := HR.out.put 0 _
  have hK' : (Wr.setCell ⟨W.heap.size + 1, 0, none⟩ (.int .i64 0)).heap[D]? = some (.deferred (some [])) := (Below.heap_setCell Wr _ _ D (by show D ≠ W.heap.size + 1; omega)).trans hK
  have q' : ((Wr.setCell ⟨W.heap.size + 1, 0, none⟩ (.int .i64 0)).putObj D (.deferred none)).cell? ⟨W.heap.size + 1, 0, none⟩ = some (.int .i64 0) := by
   have : Blk ((Wr.setCell ⟨W.heap.size + 1, 0, none⟩ (.int .i64 0)).putObj D (.deferred none)) (W.heap.size + 1) 29 [.int .i64 0] := ((grownBy_putObj' _ D _).block _ hset.lt (fun e => by cases e; omega)).trans hset
   exact this.cell 0
  refine ⟨by simp, .inl ⟨_, (Wr.setCell ⟨W.heap.size + 1, 0, none⟩ (.int .i64 0)).putObj D (.deferred none), rfl, run_takeDeferred hK', ?_⟩⟩
  have hz : Below W.heap.size W ((Wr.setCell ⟨W.heap.size + 1, 0, none⟩ (.int .i64 0)).putObj D (.deferred none)) :=
   (HB.out.setCell (by show W.heap.size ≤ W.heap.size + 1; omega) _).grown (grownBy_putObj' _ D _) (by have := HB.out.size; simpa using this) (fun k e => by cases e; omega)
  exact ⟨.int .i64 0, by simp [results, Tryz.results63, go_sem, q'], rfl, hz⟩
 case stop =>
  rintro D c pre W _ _ h _
  exact h.elim
theorem fcheck_any (t : Fm) (A : Option Addr) (c : Nat) (W : World) (hs : t.size ≤ 10000) (hd : t.depth ≤ 100) (hall : t.all nodeOK) (hA : FsR W (lowB W.heap.size) A t.l) :
  Calls Tryz.prog 63 #[.agg (fcL t.k t.a A t.l.length c).toArray] W (SgPost 0 W) := callsIn_wide.1 (fcheck_in t A c W hs hd hall hA)
end Go.Proofs.YtaegjpancbmppaaGreatDoor
