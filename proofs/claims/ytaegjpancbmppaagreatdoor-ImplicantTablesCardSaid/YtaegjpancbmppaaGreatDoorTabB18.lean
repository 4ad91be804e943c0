/- Part 18 of 33 of the proof of the law: contracts of the functions that it reaches, and plain facts. Conditions: those that each contract names. -/
import Derived.RangeFuncNested
import Derived.RangeFuncBound
import Derived.RangeFuncCalls
import Derived.RangeFuncLeaves
import Derived.RangeFuncBox
import Derived.RangeFuncWrites
import Derived.RangeFuncFrom
import Derived.Shelf.Abstract
import Derived.Shelf.RegionOpen
import Derived.OwnWalkIn
import Derived.TacticsInMore
import Derived.LoopNIn
import Derived.LoopIn
import Derived.Laws.EntriesVeiled
import Derived.Test.YtaegjpancbmppaaGreatDoorTabB17
import Derived.Test.YtaegjpancbmppaaGreatDoorTabB14
import Derived.Test.YtaegjpancbmppaaGreatDoorTabB07
set_option linter.unusedVariables false
set_option linter.unusedSimpArgs false
namespace Go.Proofs.YtaegjpancbmppaaGreatDoor
open Go.RowKit Go.Shelf
attribute [local go_sem] Oper.semAt_some
structure Fz where
 k : Int
 a : Int
 A : Option Addr
 n : Nat
 c : Nat
def Fz.v (z : Fz) : Value := .agg #[.int .i64 z.k, .int .i64 z.a, .slice z.A z.n z.c]
def Fz.sh (z : Fz) : Int × Int × Nat := (z.k, z.a, z.n)
abbrev FzQ (Q : Int → Int → Nat → Prop) : Type := { z : Fz // Q z.k z.a z.n }
def FzQ.sh {Q : Int → Int → Nat → Prop} (z : FzQ Q) : Int × Int × Nat := z.1.sh
mutual
def Fm.nodes : Fm → List (Int × Int × Nat)
 | .nd k a l => (k, a, l.length) :: nodesL l
def nodesL : List Fm → List (Int × Int × Nat)
 | [] => []
 | t :: l => t.nodes ++ nodesL l
end
theorem Fm.nodes_eq (t : Fm) : t.nodes = (t.k, t.a, t.l.length) :: nodesL t.l := by cases t; rw [Fm.nodes]; rfl
theorem nodesL_take {l : List Fm} {i : Nat} (h : i < l.length) : nodesL (l.take (i + 1)) = nodesL (l.take i) ++ (l[i]).nodes := by
 have hap : ∀ (a b : List Fm), nodesL (a ++ b) = nodesL a ++ nodesL b := by
  intro a b
  induction a with
  | nil => rw [nodesL]; simp
  | cons x a ih => rw [List.cons_append, nodesL, nodesL, ih, List.append_assoc]
 rw [List.take_succ_eq_append_getElem h, hap, nodesL, nodesL, List.append_nil]
mutual
theorem Fm.nodes_len : ∀ t : Fm, t.nodes.length = t.size
 | .nd k a l => by rw [Fm.nodes, Fm.size, List.length_cons, nodesL_len l]; omega
theorem nodesL_len : ∀ l : List Fm, (nodesL l).length = sizeL l
 | [] => by rw [nodesL, sizeL]; rfl
 | t :: l => by rw [nodesL, sizeL, List.length_append, Fm.nodes_len t, nodesL_len l]
end
def Fm.all (Q : Int → Int → Nat → Prop) (t : Fm) : Prop := ∀ x ∈ t.nodes, Q x.1 x.2.1 x.2.2
theorem Fm.all_root {Q : Int → Int → Nat → Prop} {t : Fm} (h : t.all Q) : Q t.k t.a t.l.length := h (t.k, t.a, t.l.length) (by rw [t.nodes_eq]; exact List.mem_cons_self)
theorem nodesL_mem : ∀ {l : List Fm} {t : Fm} {x : Int × Int × Nat}, t ∈ l → x ∈ t.nodes → x ∈ nodesL l
 | y :: l, t, x, h, hx => by
  rw [nodesL]
  rcases List.mem_cons.1 h with rfl | h
  ·exact List.mem_append_left _ hx
  ·exact List.mem_append_right _ (nodesL_mem h hx)
theorem Fm.all_kid {Q : Int → Int → Nat → Prop} {t s : Fm} (h : t.all Q) (hs : s ∈ t.l) : s.all Q := fun x hx => h x (by rw [t.nodes_eq]; exact List.mem_cons_of_mem _ (nodesL_mem hs hx))
def KpF (n₀ : Nat) (W W' : World) : Prop := Below n₀ W W' ∧ ∀ (b : Nat) (cs : Array Value) (t : TypeId) (fr : Nat × Nat), W.heap[b]? = some (Obj.cells cs t fr) → (t = 53 ∨ t = 143) → W'.heap[b]? = W.heap[b]?
theorem KpF.refl (n₀ : Nat) (W : World) : KpF n₀ W W := ⟨Below.refl _ _, fun _ _ _ _ _ _ => rfl⟩
theorem KpF.trans {n₀ : Nat} {A B C : World} (h : KpF n₀ A B) (k : KpF n₀ B C) : KpF n₀ A C :=
 ⟨h.1.trans k.1, fun b cs t fr hb ht => (k.2 b cs t fr ((h.2 b cs t fr hb ht).trans hb) ht).trans (h.2 b cs t fr hb ht)⟩
theorem KpF.below {n₀ : Nat} {W W' : World} (h : Below W.heap.size W W') (hn : n₀ ≤ W.heap.size) : KpF n₀ W W' :=
 ⟨h.mono hn, fun b cs t fr hb _ => h.block b (Array.getElem?_eq_some_iff.1 hb).1⟩
theorem KpF.blk {n₀ g : Nat} {W W' : World} {t : TypeId} {cs : List Value} (h : KpF n₀ W W') (hb : Blk W g t cs) (ht : t = 53 ∨ t = 143) : Blk W' g t cs := (h.2 g _ t _ hb ht).trans hb
theorem yield_any {m m' : Nat} {P : Program} {l : Nat} {args : Array Value} {W : World} {R : Ending → World → Prop} (h : YieldAt Fence.wide m P l args W R) : YieldAt Fence.wide m' P l args W R := by
 obtain ⟨fn, tmps, assign, body, hy, hr⟩ := h
 exact ⟨fn, tmps, assign, body, hy, hr.1, fun c cs _ => hr.2 c cs (room_wide _)⟩
def NdPost (Q : Int → Int → Nat → Prop) (n₀ : Nat) (J Jx : List (FzQ Q) → World → Prop) (pre : List (FzQ Q)) (t : Fm) (W : World) (e : Ending) (W' : World) : Prop :=
 (e = .returned (.bool true) ∧ ∃ ys : List (FzQ Q), ys.map FzQ.sh = t.nodes ∧ J (pre ++ ys) W' ∧ KpF n₀ W W') ∨ (e = .returned (.bool false) ∧ ∃ p', Jx p' W')
set_option maxRecDepth 1000000 in
set_option maxHeartbeats 8000000 in
theorem nodes1_any (Q : Int → Int → Nat → Prop) (n₀ l tb N n₁ : Nat) (hN : N ≤ 10000) (J Jx : List (FzQ Q) → World → Prop) (hJ : AbidesFrom n₁ J)
  (hY : ∀ pre x W, J pre W → pre.length < N → YieldAt Fence.wide 4 Tryz.prog l #[x.1.v] W fun e W' => (e = .returned (.bool true) ∧ J (pre ++ [x]) W' ∧ KpF n₀ W W') ∨ (e = .returned (.bool false) ∧ Jx (pre ++ [x]) W')) :
  ∀ (F : Nat) (t : Fm) (A : Option Addr) (c : Nat) (pre : List (FzQ Q)) (W : World), t.size ≤ F → t.all Q → FsR W (lowB n₀) A t.l → n₀ ≤ W.heap.size → Blk W tb 143 [.func (.func 95) #[] #[.pointer (some ⟨tb, 0, none⟩)]] → J pre W → pre.length + t.size ≤ N →
  Calls Tryz.prog 95 #[.agg (fcL t.k t.a A t.l.length c).toArray, .func (.yield l) #[] #[], .pointer (some ⟨tb, 0, none⟩)] W (NdPost Q n₀ J Jx pre t W) := by
 intro F
 induction F with
 | zero => intro t A c pre W h; have := size_pos t; omega
 | succ F ih =>
  intro t A c pre W hF hall hA hn0 hT hj hlen
  have HALL := Lib.hid hall
  have HKID := Lib.hid (fun s (hs : s ∈ t.l) => Fm.all_kid hall hs)
  have hq := Fm.all_root hall
  clear hall
  have HIH := Lib.hid ih
  have HT := Lib.hid hT
  obtain ⟨k, a, ls⟩ := t
  have HA := Lib.hid (show FsR W (lowB n₀) A ls from hA)
  have HKIDS := Lib.hid (show ∀ s ∈ ls, s.all Q from HKID.out)
  replace hq : Q k a ls.length := hq
  have hsz : (Fm.nd k a ls).size = 1 + sizeL ls := Fm.size_eq _
  have HNE := Lib.hid (show (Fm.nd k a ls).nodes = (k, a, ls.length) :: nodesL ls from Fm.nodes_eq _)
  rw [hsz] at hF hlen
  have hll := len_size ls
  obtain ⟨n, hn⟩ : ∃ n, n = ls.length := ⟨_, rfl⟩
  show Calls Tryz.prog 95 #[.agg #[.int .i64 k, .int .i64 a, .slice A ls.length c], .func (.yield l) #[] #[], .pointer (some ⟨tb, 0, none⟩)] W _
  rw [← hn] at HNE hq ⊢
  have HQ := Lib.hid hq
  clear hq
  have hb0 := bw_new (Below.refl W.heap.size W) (.cells (fcL k a A n c).toArray 53)
  have hj0 : J pre (W.alloc (.cells (fcL k a A n c).toArray 53)) := hJ _ _ _ none hj (World.grownBy_alloc _ _ _) (fun r e => by cases e)
  obtain ⟨fn, tmps, assign, body, hy, hR⟩ := hY pre ⟨⟨k, a, A, n, c⟩, HQ.out⟩ _ hj0 (by omega)
  have HP := Lib.hid (And.intro hF (And.intro hlen (And.intro hn hn0)))
  have hbk : Blk (W.alloc (.cells (fcL k a A n c).toArray 53)) W.heap.size 53 (fcL k a A n c) := heap_alloc_new W _
  have HBK := Lib.hid hbk
  have HB0 := Lib.hid hb0
  have hn1 : n ≤ 10000 := by omega
  have hy' : (Instr.yield l #[.agg #[.int .i64 k, .int .i64 a, .slice A n c]]).run Tryz.prog (W.alloc (.cells #[.int .i64 k, .int .i64 a, .slice A n c] 53)) = .ok (.round l fn tmps assign body) (W.alloc (.cells #[.int .i64 k, .int .i64 a, .slice A n c] 53)) := hy
  have HRR := Lib.hid hR
  clear ih hF hA hT hj hlen hll hn hsz hb0 hj0 hbk hn0 hy hR
  refine (callsIn_wide (n := 5)).1 ?_
  refine callsIn_of_wp Tryz.func95 rfl trivial ?_ rfl
  simp only [Tryz.ntmps95, List.size_toArray, List.length_cons, List.length_nil, Nat.reduceAdd, Nat.reduceSub, Array.replicate_succ, Array.replicate_zero, List.push_toArray, List.append_toArray, List.nil_append, List.cons_append]
  gi_wp2_with fail
  refine HRR.out.mono ?_
  rintro e W3 (⟨rfl, hJ4, hk3⟩ | ⟨rfl, hJx3⟩)
  ·have HJ4 := Lib.hid hJ4
   have HK3 := Lib.hid ((KpF.below HB0.out HP.out.2.2.2).trans hk3)
   have HBK3 := Lib.hid (hk3.blk HBK.out (.inl rfl))
   have q2 : W3.cell? ⟨W.heap.size, 2, none⟩ = some (.slice A n c) := HBK3.out.cell 2
   clear hJ4 hk3 hy'
   gi_wp2_with fail
   gi_loopw [15] (fun x wr => ∃ (i : Nat) (ys : List (FzQ Q)), i ≤ n ∧ x = .int .i64 (i : Int) ∧ ys.map FzQ.sh = (k, a, n) :: nodesL (ls.take i) ∧ J (pre ++ ys) wr ∧ KpF n₀ W wr) (fun x _ => n - (intOf x).toNat)
   case atStart => exact ⟨0, [⟨⟨k, a, A, n, c⟩, HQ.out⟩], Nat.zero_le _, rfl, by rw [show ls.take 0 = [] from rfl, nodesL]; rfl, HJ4.out, HK3.out⟩
   case round =>
    obtain ⟨i, ys, hi, rfl, hys, hj, hkp⟩ := hrel
    have HYS := Lib.hid hys
    have HJ := Lib.hid hj
    have HKP := Lib.hid hkp
    clear hys hj hkp q2
    by_cases hil : i < n
    ·have hiL : i < ls.length := by rw [← HP.out.2.2.1]; exact hil
     obtain ⟨g, off, As, cs, hA, hg, hcc, hkk⟩ := (HA.out.lowK HKP.out.1).at_ (by omega)
     obtain ⟨q0, q1, q2, -⟩ := hcc i hiL
     have hkid := hkk i hiL
     have hsm := size_mem (List.getElem_mem hiL)
     have hst := sizeL_take hiL
     have hsl := sizeL_le (l := ls) (i + 1)
     have hnt := nodesL_take hiL
     have hyl := congrArg List.length HYS.out
     rw [List.length_map, List.length_cons, nodesL_len] at hyl
     obtain ⟨t, ht⟩ : ∃ t, t = ls[i] := ⟨_, rfl⟩
     have hall' := HKIDS.out _ (List.getElem_mem hiL)
     rw [← ht] at q0 q1 q2 hkid hsm hst hnt hall'
     obtain ⟨nc, hnc⟩ : ∃ n, n = t.l.length := ⟨_, rfl⟩
     obtain ⟨k', hk'⟩ : ∃ z, z = t.k := ⟨_, rfl⟩
     obtain ⟨a', ha'⟩ : ∃ z, z = t.a := ⟨_, rfl⟩
     obtain ⟨A', hA'⟩ : ∃ z, z = As i := ⟨_, rfl⟩
     obtain ⟨c', hc'⟩ : ∃ z, z = cs i := ⟨_, rfl⟩
     rw [← hk'] at q0
     rw [← ha'] at q1
     rw [← hA', ← hc', ← hnc] at q2
     rw [← hA'] at hkid
     subst hA
     have hbx := bw_new (Below.refl wr.heap.size wr) (.cells (fcL k' a' A' nc c').toArray 53)
     have hn0w : n₀ ≤ wr.heap.size := Nat.le_trans HP.out.2.2.2 HKP.out.1.size
     have htb : Blk wr tb 143 [.func (.func 95) #[] #[.pointer (some ⟨tb, 0, none⟩)]] := HKP.out.blk HT.out (.inr rfl)
     have q3 : wr.cell? ⟨tb, 0, none⟩ = some (.func (.func 95) #[] #[.pointer (some ⟨tb, 0, none⟩)]) := htb.cell 0
     have hcall := HIH.out t A' c' (pre ++ ys) (wr.alloc (.cells (fcL k' a' A' nc c').toArray 53)) (by have := HP.out.1; omega) hall' (hkid.keep fun b hb => hbx.block b (Nat.lt_of_lt_of_le hb hn0w)) (Nat.le_trans hn0w hbx.size) ((hbx.block tb htb.lt).trans htb) (hJ _ _ _ none HJ.out (World.grownBy_alloc _ _ _) (fun r e => by cases e)) (by rw [List.length_append, hyl]; have := HP.out.2.1; omega)
     rw [← hk', ← ha', ← hnc] at hcall
     have HCALL := Lib.hid (show Calls Tryz.prog 95 #[.agg #[.int .i64 k', .int .i64 a', .slice A' nc c'], .func (.yield l) #[] #[], .pointer (some ⟨tb, 0, none⟩)] (wr.alloc (.cells #[.int .i64 k', .int .i64 a', .slice A' nc c'] 53)) _ from hcall)
     have hilz : (i : Int) < (n : Int) := by omega
     obtain ⟨i2, hi2⟩ : ∃ z : Int, z = (i : Int) + 1 := ⟨_, rfl⟩
     have hwi : IntKind.i64.wrap ((i : Int) + 1) = i2 := by rw [hi2]; exact IntWalk.i64_in _ (by omega)
     have HI2 := Lib.hid hi2
     have HIL := Lib.hid hil
     have HNT := Lib.hid hnt
     have HBX := Lib.hid (KpF.below hbx hn0w)
     have htl : tb < wr.heap.size := htb.lt
     clear hall' hiL hcc hkk hkid hsm hst hsl hnt hyl ht hnc hk' ha' hA' hc' hbx hn0w htb hcall hi2 hil hi hg
     gi_wp2_with fail
     refine ⟨trivial, ?_⟩
     refine (callsIn_wide.2 HCALL.out).mono ?_
     rintro e W4 (⟨rfl, ys', hys', hj4, hk4⟩ | ⟨rfl, p', hx4⟩)
     ·have HY4 := Lib.hid hys'
      have HJ5 := Lib.hid hj4
      have HK5 := Lib.hid ((HKP.out.trans HBX.out).trans hk4)
      clear hys' hj4 hk4 q0 q1 q2 q3
      gi_wp2_with fail
      go_roundw
      case rel => exact ⟨i + 1, ys ++ ys', by have := HIL.out; omega, by rw [HI2.out]; rfl, by rw [List.map_append, HYS.out, HY4.out, HNT.out]; rfl, by rw [← List.append_assoc]; exact HJ5.out, HK5.out⟩
      case measure => have := HIL.out; have := HI2.out; simp only [intOf]; omega
     ·have HX4 := Lib.hid hx4
      clear hx4 q0 q1 q2 q3
      gi_wp2_with fail
      exact bodyPost_ret (v := .bool false) (by simp [results, Tryz.results95, go_sem]) rfl (.inr ⟨rfl, p', HX4.out⟩)
    ·obtain rfl : i = n := by omega
     have hkn : ¬ (i : Int) < (i : Int) := by omega
     have HFIN := Lib.hid (show ys.map FzQ.sh = (Fm.nd k a ls).nodes by
      rw [HNE.out, HYS.out, List.take_of_length_le (by rw [HP.out.2.2.1]; exact Nat.le_refl _)])
     clear hil hi
     gi_wp2_with fail
     exact bodyPost_ret (v := .bool true) (by simp [results, Tryz.results95, go_sem]) rfl (.inl ⟨rfl, ys, HFIN.out, HJ.out, HKP.out⟩)
  ·have HX := Lib.hid hJx3
   clear hJx3 hy'
   gi_wp2_with fail
   exact bodyPost_ret (v := .bool false) (by simp [results, Tryz.results95, go_sem]) rfl (.inr ⟨rfl, _, HX.out⟩)
end Go.Proofs.YtaegjpancbmppaaGreatDoor
namespace Go.Proofs.YtaegjpancbmppaaGreatDoor
open Go.RowKit Go.Shelf
attribute [local go_sem] Oper.semAt_some
set_option maxRecDepth 1000000 in
set_option maxHeartbeats 4000000 in
theorem nodes_stops (Q : Int → Int → Nat → Prop) (n : Nat) (hn : 2 ≤ n) (n₀ tb fb : Nat) (t : Fm) (A : Option Addr) (c : Nat) (w : World) (ht : t.size ≤ 10000) (hall : t.all Q) (hA : FsR w (lowB n₀) A t.l) (hn0 : n₀ ≤ w.heap.size) (hT : Blk w tb 143 [.func (.func 95) #[] #[.pointer (some ⟨tb, 0, none⟩)]]) (hFb : Blk w fb 53 (fcL t.k t.a A t.l.length c)) :
  SeqStopsK Fence.wide n Tryz.prog 96 #[.pointer (some ⟨tb, 0, none⟩), .pointer (some ⟨fb, 0, none⟩)] (fun x : FzQ Q => #[x.1.v]) (KpF n₀) (fun ys => ys.map FzQ.sh = t.nodes) (fun _ => True) 10000 w := fun l J Jx W hW hJ hJx hY h0 => by
 have hT' : Blk W tb 143 [.func (.func 95) #[] #[.pointer (some ⟨tb, 0, none⟩)]] := (hW.block tb hT.lt).trans hT
 have hF' : Blk W fb 53 (fcL t.k t.a A t.l.length c) := (hW.block fb hFb.lt).trans hFb
 have hcall := nodes1_any Q n₀ l tb 10000 W.heap.size (Nat.le_refl _) J Jx hJ (fun pre x W hj hl => yield_any (hY pre x W hj hl)) 10000 t A c [] W ht hall (hA.keep fun b hb => hW.block b (Nat.lt_of_lt_of_le hb hn0)) (Nat.le_trans hn0 hW.size) hT' h0 (by simpa using ht)
 obtain ⟨nl, hnl⟩ : ∃ n, n = t.l.length := ⟨_, rfl⟩
 obtain ⟨k, hk⟩ : ∃ n, n = t.k := ⟨_, rfl⟩
 obtain ⟨a, ha⟩ : ∃ n, n = t.a := ⟨_, rfl⟩
 rw [← hk, ← ha, ← hnl] at hF' hcall
 have HCALL := Lib.hid (show Calls Tryz.prog 95 #[.agg #[.int .i64 k, .int .i64 a, .slice A nl c], .func (.yield l) #[] #[], .pointer (some ⟨tb, 0, none⟩)] W _ from hcall)
 have q0 := hF'.cell 0
 have q1 := hF'.cell 1
 have q2 := hF'.cell 2
 have q3 := hT'.cell 0
 clear hcall hk ha hnl hT' hF' hY hJ hJx h0 hFb hT hA hW
 refine (callsIn_wide (n := 5)).1 ?_ |> (callsIn_wide (n := n)).2
 refine callsIn_of_wp Tryz.func96 rfl trivial ?_ rfl
 simp only [Tryz.ntmps96, List.size_toArray, List.length_cons, List.length_nil, Nat.reduceAdd, Nat.reduceSub, Array.replicate_succ, Array.replicate_zero, List.push_toArray, List.append_toArray, List.nil_append, List.cons_append]
 gi_wp2_with fail
 refine ⟨trivial, ?_⟩
 refine (callsIn_wide.2 HCALL.out).mono ?_
 rintro e W4 (⟨rfl, ys', hys', hj4, hk4⟩ | ⟨rfl, p', hx4⟩)
 ·gi_wp2_with fail
  go_end0
  exact ⟨⟨_, rfl⟩, .inl ⟨ys', hys', hj4⟩⟩
 ·gi_wp2_with fail
  go_end0
  exact ⟨⟨_, rfl⟩, .inr ⟨p', trivial, hx4⟩⟩
def NsPost (k a : Int) (A : Option Addr) (n c : Nat) (W : World) (e : Ending) (W' : World) : Prop :=
 ∃ tb fb, e = .returned (.func (.func 96) #[] #[.pointer (some ⟨tb, 0, none⟩), .pointer (some ⟨fb, 0, none⟩)]) ∧ Below W.heap.size W W' ∧
  Blk W' tb 143 [.func (.func 95) #[] #[.pointer (some ⟨tb, 0, none⟩)]] ∧ Blk W' fb 53 (fcL k a A n c)
set_option maxRecDepth 1000000 in
set_option maxHeartbeats 4000000 in
theorem inodes_any (k a : Int) (A : Option Addr) (n c : Nat) (W : World) : Calls Tryz.prog 79 #[.agg #[.int .i64 k, .int .i64 a, .slice A n c]] W (NsPost k a A n c W) := by
 go_enter Tryz.func79, Tryz.ntmps79
 go_wp2_with fail
 go_ret
 have hb := bw_new (Below.refl W.heap.size W) (.cells (fcL k a A n c).toArray 53)
 have hn : Blk (W.alloc (.cells (fcL k a A n c).toArray 53)) W.heap.size 53 (fcL k a A n c) := heap_alloc_new W _
 have hb2 := bw_new hb (.cells #[.func (.func 95) #[] #[.pointer (some ⟨W.heap.size + 1, 0, none⟩)]] 143)
 have hb3 := bw_new (Below.refl _ (W.alloc (.cells (fcL k a A n c).toArray 53))) (.cells #[.func (.func 95) #[] #[.pointer (some ⟨W.heap.size + 1, 0, none⟩)]] 143)
 refine ⟨W.heap.size + 1, W.heap.size, by simp, hb2, ?_, (hb3.block _ hn.lt).trans hn⟩
 have := heap_alloc_new (W.alloc (.cells (fcL k a A n c).toArray 53)) (.cells #[.func (.func 95) #[] #[.pointer (some ⟨W.heap.size + 1, 0, none⟩)]] 143)
 rw [show (W.alloc (.cells (fcL k a A n c).toArray 53)).heap.size = W.heap.size + 1 by simp] at this
 exact this
end Go.Proofs.YtaegjpancbmppaaGreatDoor
namespace Go.Proofs.YtaegjpancbmppaaGreatDoor
open Go.RowKit
def nodeOK (k a : Int) (n : Nat) : Prop := (k = 1 ∧ 0 ≤ a ∧ a < 4096 ∧ n = 0) ∨ (k = 2 ∧ a = 0 ∧ n = 1) ∨ ((k = 3 ∨ k = 4) ∧ a = 0 ∧ n ≤ 10000) ∨ ((k = 5 ∨ k = 6) ∧ a = 0 ∧ n = 0)
def SgPost (E : Int) (W : World) (e : Ending) (W' : World) : Prop := e = .returned (.int .i64 E) ∧ Below W.heap.size W W'
set_option maxRecDepth 1000000 in
set_option maxHeartbeats 4000000 in
theorem isingle_any (k a : Int) (A : Option Addr) (n c : Nat) (W : World) (h : nodeOK k a n) : Calls Tryz.prog 80 #[.agg #[.int .i64 k, .int .i64 a, .slice A n c]] W (SgPost 0 W) := by
 have HB := Lib.hid (bw_new (Below.refl W.heap.size W) (.cells #[.int .i64 k, .int .i64 a, .slice A n c] 53))
 go_enter Tryz.func80, Tryz.ntmps80
 rcases h with ⟨rfl, h1, h2, rfl⟩ | ⟨rfl, rfl, rfl⟩ | ⟨rfl | rfl, rfl, hn⟩ | ⟨rfl | rfl, rfl, rfl⟩
 ·have h3 : decide (a < 0) = false := by simpa using h1
  have h4 : decide (a ≥ 4096) = false := by simpa using h2
  go_wp2_with fail
  go_ret
  exact ⟨rfl, HB.out⟩
 ·go_wp2_with fail
  go_ret
  exact ⟨rfl, HB.out⟩
 ·have h3 : decide ((n : Int) < 0) = false := by simp
  have h4 : decide ((n : Int) > 10000) = false := by simp; omega
  go_wp2_with fail
  go_ret
  exact ⟨rfl, HB.out⟩
 ·have h3 : decide ((n : Int) < 0) = false := by simp
  have h4 : decide ((n : Int) > 10000) = false := by simp; omega
  go_wp2_with fail
  go_ret
  exact ⟨rfl, HB.out⟩
 ·go_wp2_with fail
  go_ret
  exact ⟨rfl, HB.out⟩
 ·go_wp2_with fail
  go_ret
  exact ⟨rfl, HB.out⟩
set_option maxRecDepth 1000000 in
set_option maxHeartbeats 4000000 in
theorem isingle_bad (a : Int) (A : Option Addr) (n c : Nat) (W : World) : Calls Tryz.prog 80 #[.agg #[.int .i64 7, .int .i64 a, .slice A n c]] W (SgPost 12 W) := by
 have HB := Lib.hid (bw_new (Below.refl W.heap.size W) (.cells #[.int .i64 7, .int .i64 a, .slice A n c] 53))
 go_enter Tryz.func80, Tryz.ntmps80
 go_wp2_with fail
 go_ret
 exact ⟨rfl, HB.out⟩
end Go.Proofs.YtaegjpancbmppaaGreatDoor
namespace Go.Proofs.YtaegjpancbmppaaGreatDoor
open Go.RowKit
mutual
def Fm.val (f : Int → Bool) : Fm → Bool
 | .nd k a l => if k = 1 then f a else if k = 2 then !((valsL f l).headD false) else if k = 3 then (valsL f l).all id else if k = 4 then (valsL f l).any id else k == 6
def valsL (f : Int → Bool) : List Fm → List Bool
 | [] => []
 | t :: l => t.val f :: valsL f l
end
theorem valsL_map (f : Int → Bool) : ∀ l : List Fm, valsL f l = l.map (Fm.val f)
 | [] => by rw [valsL]; rfl
 | t :: l => by rw [valsL, valsL_map f l]; rfl
theorem Fm.val_eq (f : Int → Bool) (k a : Int) (l : List Fm) : (Fm.nd k a l).val f = if k = 1 then f a else if k = 2 then !((l.map (Fm.val f)).headD false) else if k = 3 then l.all (Fm.val f) else if k = 4 then l.any (Fm.val f) else k == 6 := by
 rw [Fm.val, valsL_map, List.all_map, List.any_map]; rfl
def vf (vals : List Bool) (v : Int) : Bool := vals.getD v.toNat false
abbrev bz (b : Bool) : Value := .bool b
def EnvOK (X : World) (vb : Nat) (vals : List Bool) : Prop := vb < X.heap.size ∧ ∃ (A : Option Addr) (c : Nat), X.cell? ⟨vb, 0, none⟩ = some (.slice A vals.length c) ∧ Rd bz X X.heap.size A vals
theorem rd_stepB {α : Type} {enc : α → Value} {X Y : World} {A : Option Addr} {l : List α} (h : Rd enc X X.heap.size A l) (hb : Below X.heap.size X Y) : Rd enc Y Y.heap.size A l := fun hl => by
 obtain ⟨b, off, rfl, hlt, hc⟩ := h hl
 exact ⟨b, off, rfl, Nat.lt_of_lt_of_le hlt hb.size, fun i hi => (hb.cell (p := ⟨b, _, none⟩) hlt).trans (hc i hi)⟩
theorem EnvOK.step {X Y : World} {vb : Nat} {vals : List Bool} (h : EnvOK X vb vals) (hb : Below X.heap.size X Y) : EnvOK Y vb vals := by
 obtain ⟨h1, A, c, h2, h3⟩ := h
 exact ⟨Nat.lt_of_lt_of_le h1 hb.size, A, c, (hb.cell (p := ⟨vb, 0, none⟩) h1).trans h2, rd_stepB h3 hb⟩
def varIn (n : Nat) (k a : Int) (m : Nat) : Prop := (k = 1 → 0 ≤ a ∧ a < n) ∧ (k = 2 → 0 < m)
abbrev ofV (vb : Nat) : Value := .func (.func 77) #[] #[.pointer (some ⟨vb, 0, none⟩)]
def VlOK (vb : Nat) (vals : List Bool) (t : Fm) : Prop := ∀ (A : Option Addr) (c : Nat) (X : World), FsR X (lowB X.heap.size) A t.l → EnvOK X vb vals →
 Calls Tryz.prog 76 #[.agg (fcL t.k t.a A t.l.length c).toArray, ofV vb] X fun e w' => e = .returned (.bool (t.val (vf vals))) ∧ Below X.heap.size X w'
set_option maxRecDepth 1000000 in
theorem ofv_any (vb : Nat) (vals : List Bool) (a : Int) (X : World) (h : EnvOK X vb vals) (ha : 0 ≤ a ∧ a < vals.length) :
  Calls Tryz.prog 77 #[.int .i64 a, .pointer (some ⟨vb, 0, none⟩)] X fun e w' => e = .returned (.bool (vf vals a)) ∧ Below X.heap.size X w' := by
 obtain ⟨h1, A, c, h2, h3⟩ := h
 obtain ⟨n, rfl⟩ : ∃ n : Nat, a = (n : Int) := ⟨a.toNat, by omega⟩
 have hn : n < vals.length := by omega
 obtain ⟨b, off, rfl, hlt, hc⟩ := h3 (by omega)
 have hcn := hc n hn
 have hv : vf vals (n : Int) = vals[n] := by unfold vf; rw [Int.toNat_natCast, List.getD_eq_getElem?_getD, List.getElem?_eq_getElem hn]; rfl
 rw [← hv] at hcn
 obtain ⟨m, hm⟩ : ∃ m, m = vals.length := ⟨_, rfl⟩
 rw [← hm] at h2 ha
 have ha1 := ha.2
 obtain ⟨r, hr⟩ : ∃ r, r = vf vals (n : Int) := ⟨_, rfl⟩
 rw [← hr] at hcn
 rw [← hr]
 replace hcn : X.cell? ⟨b, off + n, none⟩ = some (.bool r) := hcn
 clear hc h3 hv hm hr hn
 go_enter Tryz.func77, Tryz.ntmps77
 go_wp2_with fail
 go_ret
 exact ⟨rfl, Below.refl _ _⟩
set_option maxRecDepth 1000000 in
theorem clo1_any (vb B : Nat) (vals : List Bool) (t : Fm) (A : Option Addr) (c n : Nat) (X : World) (hn : n = t.l.length) (hE : VlOK vb vals t) (hF : FsR X (lowB X.heap.size) A t.l) (hV : EnvOK X vb vals) (hBl : B < X.heap.size) (hB : X.cell? ⟨B, 0, none⟩ = some (ofV vb)) :
  Calls Tryz.prog 93 #[.agg #[.int .i64 t.k, .int .i64 t.a, .slice A n c], .pointer (some ⟨B, 0, none⟩)] X fun e w' => e = .returned (.bool (!(t.val (vf vals)))) ∧ Below X.heap.size X w' := by
 have hbx := bw_new (Below.refl X.heap.size X) (.cells #[.int .i64 t.k, .int .i64 t.a, .slice A n c] 53)
 have h := hE A c _ (hF.step hbx) (hV.step hbx)
 rw [← hn] at h
 have H := Lib.hid (show Calls Tryz.prog 76 #[.agg #[.int .i64 t.k, .int .i64 t.a, .slice A n c], .func (.func 77) #[] #[.pointer (some ⟨vb, 0, none⟩)]] (X.alloc (.cells #[.int .i64 t.k, .int .i64 t.a, .slice A n c] 53)) _ from h)
 have HX := Lib.hid hbx
 obtain ⟨r, hr⟩ : ∃ r, r = t.val (vf vals) := ⟨_, rfl⟩
 rw [← hr] at H ⊢
 clear h hE hF hV hn hr hbx
 go_enter Tryz.func93, Tryz.ntmps93
 go_wp2_with fail
 refine H.out.mono ?_
 rintro e w3 ⟨rfl, hb⟩
 have HB := Lib.hid (HX.out.trans (hb.mono HX.out.size))
 clear hb
 go_wp2_with fail
 go_ret
 exact ⟨rfl, HB.out⟩
set_option maxRecDepth 1000000 in
set_option maxHeartbeats 4000000 in
theorem idx1_any (vb B : Nat) (vals : List Bool) (l : List Fm) (hE : ∀ t ∈ l, VlOK vb vals t) (n : Nat) (hn : n = l.length) (hn1 : n ≤ 10000) (A : Option Addr) (c : Nat) (X : World) (hF : FsR X (lowB X.heap.size) A l) (hV : EnvOK X vb vals) (hBl : B < X.heap.size) (hB : X.cell? ⟨B, 0, none⟩ = some (ofV vb)) :
  Calls Tryz.prog 115 #[.slice A n c, .func (.func 93) #[] #[.pointer (some ⟨B, 0, none⟩)]] X fun e w' => ∃ r : Int, e = .returned (.int .i64 r) ∧ (decide (r ≥ 0)) = l.any (fun t => !(t.val (vf vals))) ∧ Below X.heap.size X w' := by
 have HF := Lib.hid hF
 have HV := Lib.hid hV
 have HN := Lib.hid hn
 have HE := Lib.hid hE
 have HC := Lib.hid (And.intro hBl hB)
 clear hF hV hn hE hBl hB
 go_enter Tryz.func115, Tryz.ntmps115
 go_wp2_with fail
 go_loopw [8] (fun x wr => ∃ k : Nat, k ≤ n ∧ x = .int .i64 (k : Int) ∧ (l.take k).any (fun t => !(t.val (vf vals))) = false ∧ Below X.heap.size X wr) (fun x _ => n - (intOf x).toNat)
 case atStart => exact ⟨0, Nat.zero_le _, rfl, rfl, Below.refl _ _⟩
 case round =>
  obtain ⟨wo, rfl⟩ : ∃ W, W = wr := ⟨_, rfl⟩
  obtain ⟨k, hk, rfl, ha, hb⟩ := hrel
  have HB := Lib.hid hb
  have HA := Lib.hid ha
  clear hb ha
  by_cases hlt : k < n
  ·have hkl : k < l.length := by rw [← HN.out]; exact hlt
   have hkz : (k : Int) < (n : Int) := by omega
   have HKL := Lib.hid hlt
   obtain ⟨k2, hk2⟩ : ∃ z : Int, z = (k : Int) + 1 := ⟨_, rfl⟩
   have hwk : IntKind.i64.wrap ((k : Int) + 1) = k2 := by rw [hk2]; exact IntWalk.i64_in _ (by omega)
   have HK2 := Lib.hid hk2
   have hs1 := HF.out.step HB.out
   obtain ⟨g1, o1, As1, cs1, rfl, -, hc1, hk1⟩ := hs1.at_ (by omega)
   obtain ⟨a0, a1, a2, -⟩ := hc1 k hkl
   have e1 := hk1 k hkl
   have hEk := HE.out _ (List.getElem_mem hkl)
   have htk := List.take_succ_eq_append_getElem hkl
   have hme := List.getElem_mem hkl
   obtain ⟨t, ht⟩ : ∃ t, t = l[k] := ⟨_, rfl⟩
   rw [← ht] at a0 a1 a2 e1 hEk htk hme
   obtain ⟨m, hm⟩ : ∃ m, m = t.l.length := ⟨_, rfl⟩
   rw [← hm] at a2
   have HCL := Lib.hid (clo1_any vb B vals t (As1 k) (cs1 k) m wo hm hEk e1 (HV.out.step HB.out) (Nat.lt_of_lt_of_le HC.out.1 HB.out.size) ((HB.out.cell (p := ⟨B, 0, none⟩) HC.out.1).trans HC.out.2))
   have HST := Lib.hid (show (l.take (k + 1)).any (fun t => !(t.val (vf vals))) = (!(t.val (vf vals))) by rw [htk, List.any_append, HA.out, List.any_cons, List.any_nil, Bool.or_false, Bool.false_or])
   have HME := Lib.hid (show (!(t.val (vf vals))) = true → l.any (fun t => !(t.val (vf vals))) = true from fun h => List.any_eq_true.2 ⟨t, hme, h⟩)
   obtain ⟨r, hr⟩ : ∃ r, r = (!(t.val (vf vals))) := ⟨_, rfl⟩
   rw [← hr] at HCL HST HME
   clear hk2 hlt hk hs1 hc1 hk1 e1 hEk ht hm hkl htk hme hr
   go_wp2_with fail
   refine HCL.out.mono ?_
   rintro e w3 ⟨rfl, hb3⟩
   have HB3 := Lib.hid (HB.out.trans (hb3.mono HB.out.size))
   clear hb3 a0 a1 a2
   cases r with
   | true =>
    go_wp2_with fail
    go_ret
    exact ⟨_, rfl, by rw [show l.any _ = true from by first | exact HME.out rfl | exact HME.out trivial]; exact decide_eq_true (by omega), HB3.out⟩
   | false =>
    go_wp2_with fail
    go_roundw
    case rel => exact ⟨k + 1, HKL.out, by rw [HK2.out]; rfl, HST.out, HB3.out⟩
    case measure => have := HKL.out; have := HK2.out; simp only [intOf]; omega
  ·obtain rfl : k = n := by omega
   have hkz : ¬ (k : Int) < (k : Int) := by omega
   have HFIN := Lib.hid (show l.any (fun t => !(t.val (vf vals))) = false by
    have := HA.out
    rwa [List.take_of_length_le (by rw [HN.out]; exact Nat.le_refl _)] at this)
   clear hk hlt
   go_wp2_with fail
   go_ret
   exact ⟨_, rfl, by rw [HFIN.out]; decide, HB.out⟩
theorem con1_any (vb B : Nat) (vals : List Bool) (l : List Fm) (hE : ∀ t ∈ l, VlOK vb vals t) (n : Nat) (hn : n = l.length) (hn1 : n ≤ 10000) (A : Option Addr) (c : Nat) (X : World) (hF : FsR X (lowB X.heap.size) A l) (hV : EnvOK X vb vals) (hBl : B < X.heap.size) (hB : X.cell? ⟨B, 0, none⟩ = some (ofV vb)) :
  Calls Tryz.prog 92 #[.slice A n c, .func (.func 93) #[] #[.pointer (some ⟨B, 0, none⟩)]] X fun e w' => e = .returned (.bool (l.any fun t => !(t.val (vf vals)))) ∧ Below X.heap.size X w' := by
 have H := Lib.hid (idx1_any vb B vals l hE n hn hn1 A c X hF hV hBl hB)
 clear hE hn hF hV hB
 go_enter Tryz.func92, Tryz.ntmps92
 go_wp2_with fail
 refine H.out.mono ?_
 rintro e w3 ⟨r, rfl, hr, hb⟩
 have HB := Lib.hid hb
 have HR := Lib.hid hr
 clear hb hr
 go_wp2_with fail
 go_ret
 exact ⟨congrArg (fun b => Ending.returned (Value.bool b)) HR.out, HB.out⟩
set_option maxRecDepth 1000000 in
theorem clo2_any (vb B : Nat) (vals : List Bool) (t : Fm) (A : Option Addr) (c n : Nat) (X : World) (hn : n = t.l.length) (hE : VlOK vb vals t) (hF : FsR X (lowB X.heap.size) A t.l) (hV : EnvOK X vb vals) (hBl : B < X.heap.size) (hB : X.cell? ⟨B, 0, none⟩ = some (ofV vb)) :
  Calls Tryz.prog 94 #[.agg #[.int .i64 t.k, .int .i64 t.a, .slice A n c], .pointer (some ⟨B, 0, none⟩)] X fun e w' => e = .returned (.bool (t.val (vf vals))) ∧ Below X.heap.size X w' := by
 have hbx := bw_new (Below.refl X.heap.size X) (.cells #[.int .i64 t.k, .int .i64 t.a, .slice A n c] 53)
 have h := hE A c _ (hF.step hbx) (hV.step hbx)
 rw [← hn] at h
 have H := Lib.hid (show Calls Tryz.prog 76 #[.agg #[.int .i64 t.k, .int .i64 t.a, .slice A n c], .func (.func 77) #[] #[.pointer (some ⟨vb, 0, none⟩)]] (X.alloc (.cells #[.int .i64 t.k, .int .i64 t.a, .slice A n c] 53)) _ from h)
 have HX := Lib.hid hbx
 obtain ⟨r, hr⟩ : ∃ r, r = t.val (vf vals) := ⟨_, rfl⟩
 rw [← hr] at H ⊢
 clear h hE hF hV hn hr hbx
 go_enter Tryz.func94, Tryz.ntmps94
 go_wp2_with fail
 refine H.out.mono ?_
 rintro e w3 ⟨rfl, hb⟩
 have HB := Lib.hid (HX.out.trans (hb.mono HX.out.size))
 clear hb
 go_wp2_with fail
 go_ret
 exact ⟨rfl, HB.out⟩
set_option maxRecDepth 1000000 in
set_option maxHeartbeats 4000000 in
theorem idx2_any (vb B : Nat) (vals : List Bool) (l : List Fm) (hE : ∀ t ∈ l, VlOK vb vals t) (n : Nat) (hn : n = l.length) (hn1 : n ≤ 10000) (A : Option Addr) (c : Nat) (X : World) (hF : FsR X (lowB X.heap.size) A l) (hV : EnvOK X vb vals) (hBl : B < X.heap.size) (hB : X.cell? ⟨B, 0, none⟩ = some (ofV vb)) :
  Calls Tryz.prog 115 #[.slice A n c, .func (.func 94) #[] #[.pointer (some ⟨B, 0, none⟩)]] X fun e w' => ∃ r : Int, e = .returned (.int .i64 r) ∧ (decide (r ≥ 0)) = l.any (fun t => t.val (vf vals)) ∧ Below X.heap.size X w' := by
 have HF := Lib.hid hF
 have HV := Lib.hid hV
 have HN := Lib.hid hn
 have HE := Lib.hid hE
 have HC := Lib.hid (And.intro hBl hB)
 clear hF hV hn hE hBl hB
 go_enter Tryz.func115, Tryz.ntmps115
 go_wp2_with fail
 go_loopw [8] (fun x wr => ∃ k : Nat, k ≤ n ∧ x = .int .i64 (k : Int) ∧ (l.take k).any (fun t => t.val (vf vals)) = false ∧ Below X.heap.size X wr) (fun x _ => n - (intOf x).toNat)
 case atStart => exact ⟨0, Nat.zero_le _, rfl, rfl, Below.refl _ _⟩
 case round =>
  obtain ⟨wo, rfl⟩ : ∃ W, W = wr := ⟨_, rfl⟩
  obtain ⟨k, hk, rfl, ha, hb⟩ := hrel
  have HB := Lib.hid hb
  have HA := Lib.hid ha
  clear hb ha
  by_cases hlt : k < n
  ·have hkl : k < l.length := by rw [← HN.out]; exact hlt
   have hkz : (k : Int) < (n : Int) := by omega
   have HKL := Lib.hid hlt
   obtain ⟨k2, hk2⟩ : ∃ z : Int, z = (k : Int) + 1 := ⟨_, rfl⟩
   have hwk : IntKind.i64.wrap ((k : Int) + 1) = k2 := by rw [hk2]; exact IntWalk.i64_in _ (by omega)
   have HK2 := Lib.hid hk2
   have hs1 := HF.out.step HB.out
   obtain ⟨g1, o1, As1, cs1, rfl, -, hc1, hk1⟩ := hs1.at_ (by omega)
   obtain ⟨a0, a1, a2, -⟩ := hc1 k hkl
   have e1 := hk1 k hkl
   have hEk := HE.out _ (List.getElem_mem hkl)
   have htk := List.take_succ_eq_append_getElem hkl
   have hme := List.getElem_mem hkl
   obtain ⟨t, ht⟩ : ∃ t, t = l[k] := ⟨_, rfl⟩
   rw [← ht] at a0 a1 a2 e1 hEk htk hme
   obtain ⟨m, hm⟩ : ∃ m, m = t.l.length := ⟨_, rfl⟩
   rw [← hm] at a2
   have HCL := Lib.hid (clo2_any vb B vals t (As1 k) (cs1 k) m wo hm hEk e1 (HV.out.step HB.out) (Nat.lt_of_lt_of_le HC.out.1 HB.out.size) ((HB.out.cell (p := ⟨B, 0, none⟩) HC.out.1).trans HC.out.2))
   have HST := Lib.hid (show (l.take (k + 1)).any (fun t => t.val (vf vals)) = (t.val (vf vals)) by rw [htk, List.any_append, HA.out, List.any_cons, List.any_nil, Bool.or_false, Bool.false_or])
   have HME := Lib.hid (show (t.val (vf vals)) = true → l.any (fun t => t.val (vf vals)) = true from fun h => List.any_eq_true.2 ⟨t, hme, h⟩)
   obtain ⟨r, hr⟩ : ∃ r, r = (t.val (vf vals)) := ⟨_, rfl⟩
   rw [← hr] at HCL HST HME
   clear hk2 hlt hk hs1 hc1 hk1 e1 hEk ht hm hkl htk hme hr
   go_wp2_with fail
   refine HCL.out.mono ?_
   rintro e w3 ⟨rfl, hb3⟩
   have HB3 := Lib.hid (HB.out.trans (hb3.mono HB.out.size))
   clear hb3 a0 a1 a2
   cases r with
   | true =>
    go_wp2_with fail
    go_ret
    exact ⟨_, rfl, by rw [show l.any _ = true from by first | exact HME.out rfl | exact HME.out trivial]; exact decide_eq_true (by omega), HB3.out⟩
   | false =>
    go_wp2_with fail
    go_roundw
    case rel => exact ⟨k + 1, HKL.out, by rw [HK2.out]; rfl, HST.out, HB3.out⟩
    case measure => have := HKL.out; have := HK2.out; simp only [intOf]; omega
  ·obtain rfl : k = n := by omega
   have hkz : ¬ (k : Int) < (k : Int) := by omega
   have HFIN := Lib.hid (show l.any (fun t => t.val (vf vals)) = false by
    have := HA.out
    rwa [List.take_of_length_le (by rw [HN.out]; exact Nat.le_refl _)] at this)
   clear hk hlt
   go_wp2_with fail
   go_ret
   exact ⟨_, rfl, by rw [HFIN.out]; decide, HB.out⟩
theorem con2_any (vb B : Nat) (vals : List Bool) (l : List Fm) (hE : ∀ t ∈ l, VlOK vb vals t) (n : Nat) (hn : n = l.length) (hn1 : n ≤ 10000) (A : Option Addr) (c : Nat) (X : World) (hF : FsR X (lowB X.heap.size) A l) (hV : EnvOK X vb vals) (hBl : B < X.heap.size) (hB : X.cell? ⟨B, 0, none⟩ = some (ofV vb)) :
  Calls Tryz.prog 92 #[.slice A n c, .func (.func 94) #[] #[.pointer (some ⟨B, 0, none⟩)]] X fun e w' => e = .returned (.bool (l.any fun t => t.val (vf vals))) ∧ Below X.heap.size X w' := by
 have H := Lib.hid (idx2_any vb B vals l hE n hn hn1 A c X hF hV hBl hB)
 clear hE hn hF hV hB
 go_enter Tryz.func92, Tryz.ntmps92
 go_wp2_with fail
 refine H.out.mono ?_
 rintro e w3 ⟨r, rfl, hr, hb⟩
 have HB := Lib.hid hb
 have HR := Lib.hid hr
 clear hb hr
 go_wp2_with fail
 go_ret
 exact ⟨congrArg (fun b => Ending.returned (Value.bool b)) HR.out, HB.out⟩
def VOK (n : Nat) (t : Fm) : Prop := t.size ≤ 10000 ∧ t.all (varIn n) ∧ t.all nodeOK
set_option maxRecDepth 1000000 in
set_option maxHeartbeats 8000000 in
theorem value_any (vb : Nat) (vals : List Bool) : ∀ (F : Nat) (t : Fm), t.size ≤ F → VOK vals.length t → VlOK vb vals t := by
 intro F
 induction F with
 | zero => intro t h; have := size_pos t; omega
 | succ F ih =>
  intro t hF hok A c X hA hV
  obtain ⟨hs, hv, hno⟩ := hok
  have hq := Fm.all_root hv
  have hq2 := Fm.all_root hno
  have hkids : ∀ s ∈ t.l, VlOK vb vals s := fun s hs' => by
   have h1 := size_mem hs'
   have h2 : t.size = 1 + sizeL t.l := Fm.size_eq t
   exact ih s (by omega) ⟨by omega, Fm.all_kid hv hs', Fm.all_kid hno hs'⟩
  have hll := len_size t.l
  have h2 : t.size = 1 + sizeL t.l := Fm.size_eq t
  obtain ⟨k, a, l⟩ := t
  replace hkids : ∀ s ∈ l, VlOK vb vals s := hkids
  replace hA : FsR X (lowB X.heap.size) A l := hA
  replace hq : varIn vals.length k a l.length := hq
  replace hq2 : nodeOK k a l.length := hq2
  replace hll : l.length ≤ sizeL l := hll
  replace h2 : (Fm.nd k a l).size = 1 + sizeL l := h2
  have hl1 : l.length ≤ 10000 := by omega
  rw [Fm.val_eq]
  obtain ⟨n, hn⟩ : ∃ n, n = l.length := ⟨_, rfl⟩
  rw [← hn] at hq hq2 hl1
  show Calls Tryz.prog 76 #[.agg #[.int .i64 k, .int .i64 a, .slice A l.length c], .func (.func 77) #[] #[.pointer (some ⟨vb, 0, none⟩)]] X _
  rw [← hn]
  have hb1 := bw_new (Below.refl X.heap.size X) (.cells #[.int .i64 k, .int .i64 a, .slice A n c] 53)
  have hb2 := bw_new (Below.refl (X.alloc (.cells #[.int .i64 k, .int .i64 a, .slice A n c] 53)).heap.size (X.alloc (.cells #[.int .i64 k, .int .i64 a, .slice A n c] 53))) (.cells #[ofV vb] 98)
  have s1 : (X.alloc (.cells #[.int .i64 k, .int .i64 a, .slice A n c] 53)).heap.size = X.heap.size + 1 := by simp
  have hbx := hb1.trans (hb2.mono hb1.size)
  have hbk : Blk ((X.alloc (.cells #[.int .i64 k, .int .i64 a, .slice A n c] 53)).alloc (.cells #[ofV vb] 98)) (X.heap.size + 1) 98 [ofV vb] := by
   have := heap_alloc_new (X.alloc (.cells #[.int .i64 k, .int .i64 a, .slice A n c] 53)) (.cells #[ofV vb] 98)
   rw [s1] at this
   exact this
  have hbf : Blk ((X.alloc (.cells #[.int .i64 k, .int .i64 a, .slice A n c] 53)).alloc (.cells #[ofV vb] 98)) X.heap.size 53 (fcL k a A n c) :=
   (hb2.block _ (by rw [s1]; exact Nat.lt_succ_self _)).trans (heap_alloc_new X _)
  have HBF := Lib.hid hbf
  have HX := Lib.hid hbx
  have HA := Lib.hid (hA.step hbx)
  have HA0 := Lib.hid hA
  have HV := Lib.hid (hV.step hbx)
  have HBK := Lib.hid hbk
  have HKID := Lib.hid hkids
  have HN := Lib.hid hn
  clear ih hF hv hno hs hll h2 hkids hA hV hbx hbk hb1 hb2 s1 hbf
  rcases hq2 with ⟨rfl, h1, h2, h3⟩ | ⟨rfl, rfl, h3⟩ | ⟨rfl | rfl, rfl, h3⟩ | ⟨rfl | rfl, rfl, h3⟩
  ·rw [if_pos rfl]
   have HOA := Lib.hid (ofv_any vb vals a _ HV.out (hq.1 rfl))
   obtain ⟨r, hr⟩ : ∃ r, r = vf vals a := ⟨_, rfl⟩
   rw [← hr] at HOA ⊢
   clear hr hq h1 h2 h3 hn
   go_enter Tryz.func76, Tryz.ntmps76
   go_wp2_with fail
   refine HOA.out.mono ?_
   rintro e w3 ⟨rfl, hb⟩
   have HB := Lib.hid (HX.out.trans (hb.mono HX.out.size))
   clear hb
   go_wp2_with fail
   go_ret
   exact ⟨rfl, HB.out⟩
  ·rw [if_neg (by decide), if_pos rfl]
   obtain ⟨s, hl⟩ : ∃ s, l = [s] := by
    match l, hn.symm.trans h3 with
    | [s], _ => exact ⟨s, rfl⟩
   subst hl
   subst h3
   obtain ⟨g1, o1, As1, cs1, hAe, hg1, hc1, -⟩ := HA0.out.at_ (by show 0 < 1; decide)
   obtain ⟨a0, a1, a2, -⟩ := hc1 0 (by show 0 < 1; decide)
   obtain ⟨g2, o2, As2, cs2, hAe2, -, hc2, hk2⟩ := HA.out.at_ (by show 0 < 1; decide)
   obtain ⟨-, -, b2, -⟩ := hc2 0 (by show 0 < 1; decide)
   have e1 := hk2 0 (by show 0 < 1; decide)
   subst hAe
   injection hAe2 with e3
   injection e3 with e3 e4 _
   subst e3
   subst e4
   replace a0 : _ = some (Value.int .i64 s.k) := a0
   replace a1 : _ = some (Value.int .i64 s.a) := a1
   replace a2 : _ = some (Value.slice (As1 0) s.l.length (cs1 0)) := a2
   replace b2 : _ = some (Value.slice (As2 0) s.l.length (cs2 0)) := b2
   replace e1 : FsR _ _ (As2 0) s.l := e1
   have b3 := (HX.out.cell (p := ⟨g1, o1 + 0 * 3 + 2, none⟩) hg1).trans a2
   rw [b2] at b3
   injection b3 with b3
   injection b3 with b3 _ b4
   rw [b3] at e1
   rw [Nat.zero_mul, Nat.add_zero] at a0 a1 a2
   obtain ⟨m, hm⟩ : ∃ m, m = s.l.length := ⟨_, rfl⟩
   rw [← hm] at a2
   have HE1 := Lib.hid e1
   have HR := Lib.hid (show ((!(([s] : List Fm).map (Fm.val (vf vals))).headD false)) = !(s.val (vf vals)) from rfl)
   rw [HR.out]
   obtain ⟨r, hr⟩ : ∃ r, r = s.val (vf vals) := ⟨_, rfl⟩
   rw [← hr]
   obtain ⟨k', hk'⟩ : ∃ z, z = s.k := ⟨_, rfl⟩
   obtain ⟨a', ha'⟩ : ∃ z, z = s.a := ⟨_, rfl⟩
   obtain ⟨A', hA'⟩ : ∃ z, z = As1 0 := ⟨_, rfl⟩
   obtain ⟨c', hc'⟩ : ∃ z, z = cs1 0 := ⟨_, rfl⟩
   rw [← hk'] at a0
   rw [← ha'] at a1
   rw [← hA', ← hc'] at a2
   have hg1' : g1 < X.heap.size := hg1
   have HWX := Lib.hid (show ∀ W, Below ((X.alloc (.cells #[.int .i64 2, .int .i64 0, .slice (some ⟨g1, o1, none⟩) 1 c] 53)).alloc (.cells #[ofV vb] 98)).heap.size ((X.alloc (.cells #[.int .i64 2, .int .i64 0, .slice (some ⟨g1, o1, none⟩) 1 c] 53)).alloc (.cells #[ofV vb] 98)) W → W.cell? ⟨X.heap.size, 2, none⟩ = some (.slice (some ⟨g1, o1, none⟩) 1 c) ∧ W.cell? ⟨X.heap.size + 1, 0, none⟩ = some (ofV vb) ∧ g1 < W.heap.size ∧ W.cell? ⟨g1, o1, none⟩ = some (.int .i64 k') ∧ W.cell? ⟨g1, o1 + 1, none⟩ = some (.int .i64 a') ∧ W.cell? ⟨g1, o1 + 2, none⟩ = some (.slice A' m c') from fun W h => by
    have h1 := HX.out.trans (h.mono HX.out.size)
    exact ⟨(h.cell (p := ⟨X.heap.size, 2, none⟩) HBF.out.lt).trans (HBF.out.cell 2), (h.cell (p := ⟨X.heap.size + 1, 0, none⟩) HBK.out.lt).trans (HBK.out.cell 0), Nat.lt_of_lt_of_le hg1' h1.size, (h1.cell (p := ⟨g1, o1, none⟩) hg1').trans a0, (h1.cell (p := ⟨g1, o1 + 1, none⟩) hg1').trans a1, (h1.cell (p := ⟨g1, o1 + 2, none⟩) hg1').trans a2⟩)
   have HCL2 := Lib.hid (show ∀ W, Below ((X.alloc (.cells #[.int .i64 2, .int .i64 0, .slice (some ⟨g1, o1, none⟩) 1 c] 53)).alloc (.cells #[ofV vb] 98)).heap.size ((X.alloc (.cells #[.int .i64 2, .int .i64 0, .slice (some ⟨g1, o1, none⟩) 1 c] 53)).alloc (.cells #[ofV vb] 98)) W → Calls Tryz.prog 76 #[.agg #[.int .i64 k', .int .i64 a', .slice A' m c'], .func (.func 77) #[] #[.pointer (some ⟨vb, 0, none⟩)]] W (fun e w' => e = .returned (.bool r) ∧ Below W.heap.size W w') from fun W h => by
    have := HKID.out s (List.mem_singleton.2 rfl) (As1 0) c' W (HE1.out.step h) (HV.out.step h)
    rw [hr, hk', ha', hA', hm]
    exact this)
   clear hr hk' ha' hA' hc' hm hn hq b2 b3 b4 e1 hc1 hc2 hk2 hg1 a0 a1 a2
   go_enter Tryz.func76, Tryz.ntmps76
   go_upto_region 5 with fail
   --R5
   refine wp_regionJ 8 #[false, false, false, false, false, false, false, false] (fun ll aa W => ∃ (m0 m1 m2 m3 m4 m5 m6 m7 : Bool), ll = #[m0, m1, m2, m3, m4, m5, m6, m7] ∧ aa = ({ tmps := #[Value.agg #[Value.int IntKind.i64 2, Value.int IntKind.i64 0, Value.slice (some { block := g1, off := o1 }) 1 c], Value.func (Fn.func 77) #[] #[Value.pointer (some { block := vb, off := 0 })], Value.pointer (some { block := X.heap.size, off := 0 }), Value.pointer (some { block := X.heap.size + 1, off := 0 }), cwX m7 (Value.bool (!r)) (Value.bool false), Value.pointer (some { block := X.heap.size, off := 0 }), Value.int IntKind.i64 2, Value.bool false, Value.bool false, undef, undef, undef, undef, Value.bool true, Value.bool true, cwX m0 (Value.pointer (some ⟨X.heap.size, 2, none⟩)) (undef), cwX m1 (Value.slice (some ⟨g1, o1, none⟩) 1 c) (undef), cwX m2 (Value.pointer (some ⟨g1, o1, none⟩)) (undef), cwX m3 (Value.agg #[.int .i64 k', .int .i64 a', .slice A' m c']) (undef), cwX m4 (ofV vb) (undef), cwX m5 (Value.bool r) (undef), cwX m6 (Value.bool (!r)) (undef), undef, undef, undef, undef, undef, undef, undef, undef, undef, undef, undef, undef, undef, undef, undef, undef], defers := [] } : Act) ∧ (True) ∧ Below ((X.alloc (.cells #[.int .i64 2, .int .i64 0, .slice (some ⟨g1, o1, none⟩) 1 c] 53)).alloc (.cells #[ofV vb] 98)).heap.size ((X.alloc (.cells #[.int .i64 2, .int .i64 0, .slice (some ⟨g1, o1, none⟩) 1 c] 53)).alloc (.cells #[ofV vb] 98)) W) (by kernel_rfl) (by kernel_rfl) (by kernel_rfl) (by kernel_rfl) ?_ ?_ ?_ ?_
   ·rintro ll aa W ⟨m0, m1, m2, m3, m4, m5, m6, m7, rfl, _⟩
    rfl
   ·exact ⟨false, false, false, false, false, false, false, false, rfl, rfl, trivial, (bw_drew (Below.refl _ _))⟩
   ·rintro ll aa W i o ⟨m0, m1, m2, m3, m4, m5, m6, m7, rfl, rfl, hi0, hm⟩ ho hun hall K hK
    have hi : i < 8 := (Array.getElem?_eq_some_iff.1 ho).1
    have HM := Lib.hid hm
    have HI := Lib.hid hi0
    clear hm hi0
    rcases (show i = 0 ∨ i = 1 ∨ i = 2 ∨ i = 3 ∨ i = 4 ∨ i = 5 ∨ i = 6 ∨ i = 7 by omega) with rfl | rfl | rfl | rfl | rfl | rfl | rfl | rfl
    ·cases ho
     simp at hun; subst hun
     clear hall hi
     go_simp
     exact hK.out _ _ ⟨true, m1, m2, m3, m4, m5, m6, m7, rfl, rfl, trivial, HM.out⟩
    ·cases ho
     cases (getBX hall 0 rfl : m0 = true)
     simp at hun; subst hun
     clear hall hi
     have x2 := (HWX.out W HM.out).1
     go_simp
     exact hK.out _ _ ⟨true, true, m2, m3, m4, m5, m6, m7, rfl, rfl, trivial, HM.out⟩
    ·cases ho
     cases (getBX hall 1 rfl : m1 = true)
     simp at hun; subst hun
     clear hall hi
     go_simp
     exact hK.out _ _ ⟨m0, true, true, m3, m4, m5, m6, m7, rfl, rfl, trivial, HM.out⟩
    ·cases ho
     cases (getBX hall 2 rfl : m2 = true)
     simp at hun; subst hun
     clear hall hi
     obtain ⟨-, -, a0, a1, a2⟩ := HWX.out W HM.out
     go_simp
     exact hK.out _ _ ⟨m0, m1, true, true, m4, m5, m6, m7, rfl, rfl, trivial, HM.out⟩
    ·cases ho
     simp at hun; subst hun
     clear hall hi
     have x3 := (HWX.out W HM.out).2.1
     go_simp
     exact hK.out _ _ ⟨m0, m1, m2, m3, true, m5, m6, m7, rfl, rfl, trivial, HM.out⟩
    ·cases ho
     cases (getBX hall 3 rfl : m3 = true)
     cases (getBX hall 4 rfl : m4 = true)
     simp at hun; subst hun
     clear hall hi
     go_simp
     refine (HCL2.out W HM.out).mono ?_
     rintro e W' ⟨rfl, hb⟩
     have HN' := Lib.hid (HM.out.trans (hb.mono HM.out.size))
     exact hK.out _ _ ⟨m0, m1, m2, true, true, true, m6, m7, rfl, rfl, trivial, HN'.out⟩
    ·cases ho
     cases (getBX hall 5 rfl : m5 = true)
     simp at hun; subst hun
     clear hall hi
     go_simp
     exact hK.out _ _ ⟨m0, m1, m2, m3, m4, true, true, m7, rfl, rfl, trivial, HM.out⟩
    ·cases ho
     cases (getBX hall 0 rfl : m0 = true)
     cases (getBX hall 1 rfl : m1 = true)
     cases (getBX hall 2 rfl : m2 = true)
     cases (getBX hall 3 rfl : m3 = true)
     cases (getBX hall 4 rfl : m4 = true)
     cases (getBX hall 5 rfl : m5 = true)
     cases (getBX hall 6 rfl : m6 = true)
     simp at hun; subst hun
     clear hall hi
     go_simp
     exact hK.out _ _ ⟨true, true, true, true, true, true, true, true, rfl, rfl, trivial, HM.out⟩
   ·rintro ll aa W ⟨m0, m1, m2, m3, m4, m5, m6, m7, rfl, rfl, _, hm⟩ hall
    cases (hall 0 (by decide) : m0 = true)
    cases (hall 1 (by decide) : m1 = true)
    cases (hall 2 (by decide) : m2 = true)
    cases (hall 3 (by decide) : m3 = true)
    cases (hall 4 (by decide) : m4 = true)
    cases (hall 5 (by decide) : m5 = true)
    cases (hall 6 (by decide) : m6 = true)
    cases (hall 7 (by decide) : m7 = true)
    clear hall
    have HME := Lib.hid hm
    clear hm
    dsimp only [cwX, cond_true]
    go_wp2_with fail
    go_ret
    exact ⟨rfl, HX.out.trans (HME.out.mono HX.out.size)⟩
  ·rw [if_neg (by decide), if_neg (by decide), if_pos rfl, List.all_eq_not_any_not]
   have HC := Lib.hid (con1_any vb (X.heap.size + 1) vals l HKID.out n HN.out hl1 A c _ HA.out HV.out HBK.out.lt (HBK.out.cell 0))
   obtain ⟨r, hr⟩ : ∃ r, r = l.any fun t => !(t.val (vf vals)) := ⟨_, rfl⟩
   rw [← hr] at HC ⊢
   clear hr hq h3 hn hl1
   go_enter Tryz.func76, Tryz.ntmps76
   go_wp2_with fail
   refine HC.out.mono ?_
   rintro e w3 ⟨rfl, hb⟩
   have HB := Lib.hid (HX.out.trans (hb.mono HX.out.size))
   clear hb
   go_wp2_with fail
   go_ret
   exact ⟨rfl, HB.out⟩
  ·rw [if_neg (by decide), if_neg (by decide), if_neg (by decide), if_pos rfl]
   have HC := Lib.hid (con2_any vb (X.heap.size + 1) vals l HKID.out n HN.out hl1 A c _ HA.out HV.out HBK.out.lt (HBK.out.cell 0))
   obtain ⟨r, hr⟩ : ∃ r, r = l.any fun t => t.val (vf vals) := ⟨_, rfl⟩
   rw [← hr] at HC
   rw [show l.any (Fm.val (vf vals)) = r from hr.symm]
   clear hr hq h3 hn hl1
   go_enter Tryz.func76, Tryz.ntmps76
   go_wp2_with fail
   refine HC.out.mono ?_
   rintro e w3 ⟨rfl, hb⟩
   have HB := Lib.hid (HX.out.trans (hb.mono HX.out.size))
   clear hb
   go_wp2_with fail
   go_ret
   exact ⟨rfl, HB.out⟩
  ·rw [if_neg (by decide), if_neg (by decide), if_neg (by decide), if_neg (by decide)]
   clear hq h3 hn hl1
   go_enter Tryz.func76, Tryz.ntmps76
   go_wp2_with fail
   go_ret
   exact ⟨rfl, HX.out⟩
  ·rw [if_neg (by decide), if_neg (by decide), if_neg (by decide), if_neg (by decide)]
   clear hq h3 hn hl1
   go_enter Tryz.func76, Tryz.ntmps76
   go_wp2_with fail
   go_ret
   exact ⟨rfl, HX.out⟩
end Go.Proofs.YtaegjpancbmppaaGreatDoor
namespace Go.Proofs.YtaegjpancbmppaaGreatDoor
mutual
theorem Fm.val_congr {f g : Int → Bool} : ∀ t : Fm, (∀ x ∈ t.nodes, x.1 = 1 → f x.2.1 = g x.2.1) → t.val f = t.val g
 | .nd k a l, h => by
  rw [Fm.val, Fm.val, valsL_congr l fun x hx => h x (by rw [Fm.nodes]; exact List.mem_cons_of_mem _ hx)]
  by_cases hk : k = 1
  ·rw [if_pos hk, if_pos hk]; exact h (k, a, l.length) (by rw [Fm.nodes]; exact List.mem_cons_self ..) hk
  ·rw [if_neg hk, if_neg hk]
theorem valsL_congr {f g : Int → Bool} : ∀ l : List Fm, (∀ x ∈ nodesL l, x.1 = 1 → f x.2.1 = g x.2.1) → valsL f l = valsL g l
 | [], _ => rfl
 | t :: l, h => by
  rw [valsL, valsL, Fm.val_congr t fun x hx => h x (by rw [nodesL]; exact List.mem_append_left _ hx), valsL_congr l fun x hx => h x (by rw [nodesL]; exact List.mem_append_right _ hx)]
end
def rowV (n r : Nat) : List Bool := (List.range n).map fun i => r.testBit i
theorem rowV_len (n r : Nat) : (rowV n r).length = n := by unfold rowV; rw [List.length_map, List.length_range]
theorem rowV_get {n r i : Nat} (h : i < n) : vf (rowV n r) (i : Int) = r.testBit i := by
 unfold vf rowV
 rw [Int.toNat_natCast, List.getD_eq_getElem?_getD, List.getElem?_map, List.getElem?_range h]
 rfl
def tabK (n : Nat) (t : Fm) (k : Nat) : List Nat := (List.range k).filter fun r => t.val (vf (rowV n r))
def tabF (n : Nat) (t : Fm) : List Nat := tabK n t (2 ^ n)
theorem tabK_succ (n : Nat) (t : Fm) (k : Nat) : tabK n t (k + 1) = if t.val (vf (rowV n k)) = true then tabK n t k ++ [k] else tabK n t k := by
 unfold tabK
 rw [List.range_succ, List.filter_append]
 by_cases h : t.val (vf (rowV n k)) = true
 ·rw [if_pos h, List.filter_cons_of_pos (p := fun r => t.val (vf (rowV n r))) h]; rfl
 ·rw [if_neg h, List.filter_cons_of_neg (p := fun r => t.val (vf (rowV n r))) h, List.filter_nil, List.append_nil]
theorem tabK_len (n : Nat) (t : Fm) (k : Nat) : (tabK n t k).length ≤ k := by
 have := List.length_filter_le (fun r => t.val (vf (rowV n r))) (List.range k); rwa [List.length_range] at this
end Go.Proofs.YtaegjpancbmppaaGreatDoor
namespace Go.Proofs.YtaegjpancbmppaaGreatDoor
theorem nodesL_ex : ∀ {l : List Fm} {x : Int × Int × Nat}, x ∈ nodesL l → ∃ t ∈ l, x ∈ t.nodes
 | [], x, h => by rw [nodesL] at h; cases h
 | y :: l, x, h => by
  rw [nodesL] at h
  rcases List.mem_append.1 h with h | h
  ·exact ⟨y, List.mem_cons_self .., h⟩
  ·obtain ⟨t, ht, hx⟩ := nodesL_ex h
   exact ⟨t, List.mem_cons_of_mem _ ht, hx⟩
theorem Fm.all_nd {Q : Int → Int → Nat → Prop} {k a : Int} {l : List Fm} (h : Q k a l.length) (hl : ∀ s ∈ l, s.all Q) : (Fm.nd k a l).all Q := fun x hx => by
 rw [Fm.nodes] at hx
 rcases List.mem_cons.1 hx with rfl | hx
 ·exact h
 ·obtain ⟨t, ht, hx⟩ := nodesL_ex hx
  exact hl t ht x hx
theorem sizeL_app : ∀ a b : List Fm, sizeL (a ++ b) = sizeL a + sizeL b
 | [], b => by rw [List.nil_append, sizeL]; omega
 | x :: a, b => by rw [List.cons_append, sizeL, sizeL_app a b, sizeL]; omega
mutual
theorem Fm.depth_size : ∀ t : Fm, t.depth ≤ t.size
 | .nd k a l => by
  have := depthL_size l
  rw [Fm.depth, Fm.size]; omega
theorem depthL_size : ∀ l : List Fm, depthL l ≤ sizeL l
 | [] => by rw [depthL, sizeL]; exact Nat.le_refl _
 | t :: l => by
  have h1 := Fm.depth_size t
  have h2 := depthL_size l
  rw [depthL, sizeL]; omega
end
def mkT (b k : Nat) : Nat := if b % 8 = 4 then min k 1 else min k (b / 8 / 2 % 4)
def mkK (b : Nat) : Int := if b % 8 = 4 then 2 else ((3 + b / 8 % 2 : Nat) : Int)
def mkS (st : List Fm) (b : Nat) : List Fm :=
 if b % 8 < 3 then st ++ [.nd 1 ((b / 8 % 6 : Nat) : Int) []]
 else if b % 8 = 3 then st ++ [.nd ((5 + b / 8 % 2 : Nat) : Int) 0 []]
 else if b % 8 = 4 ∧ st.length = 0 then [.nd 2 0 [.nd 1 ((b / 8 % 6 : Nat) : Int) []]]
 else st.take (st.length - mkT b st.length) ++ [.nd (mkK b) 0 (st.drop (st.length - mkT b st.length))]
def mkL (l : List Nat) (k : Nat) : List Fm := (l.take k).foldl mkS []
theorem mkL_zero (l : List Nat) : mkL l 0 = [] := rfl
theorem mkL_succ {l : List Nat} {k : Nat} (h : k < l.length) : mkL l (k + 1) = mkS (mkL l k) l[k] := by
 unfold mkL
 rw [List.take_succ_eq_append_getElem h, List.foldl_append]
 rfl
def mkF (l : List Nat) : Fm := if (mkL l (min l.length 30)).length = 1 then (mkL l (min l.length 30)).headD default else .nd 3 0 (mkL l (min l.length 30))
def node6 (k a : Int) (m : Nat) : Prop := nodeOK k a m ∧ (k = 1 → 0 ≤ a ∧ a < 6)
def StOK (st : List Fm) (n : Nat) : Prop := (∀ s ∈ st, s.all node6) ∧ sizeL st ≤ n
theorem StOK.len {st : List Fm} {n : Nat} (h : StOK st n) : st.length ≤ n := Nat.le_trans (len_size st) h.2
theorem mkT_le (b k : Nat) : mkT b k ≤ k := by unfold mkT; split <;> exact Nat.min_le_left _ _
theorem mkS_ok {st : List Fm} {n b : Nat} (h : StOK st n) (hn : n ≤ 10000) : StOK (mkS st b) (n + 2) := by
 obtain ⟨h1, h2⟩ := h
 have one : ∀ t : Fm, t.all node6 → t.size ≤ 2 → StOK (st ++ [t]) (n + 2) := fun t ht hs => by
  refine ⟨fun s hs => (List.mem_append.1 hs).elim (h1 s) fun h => ?_, ?_⟩
  ·rw [List.mem_singleton] at h; subst h; exact ht
  ·rw [sizeL_app, sizeL, sizeL]; omega
 have leaf : ∀ x : Nat, (Fm.nd 1 ((x % 6 : Nat) : Int) []).all node6 := fun x => Fm.all_nd ⟨.inl ⟨rfl, by omega, by omega, rfl⟩, fun _ => ⟨by omega, by omega⟩⟩ fun _ h => by cases h
 unfold mkS
 split
 ·exact one _ (leaf _) (by rw [Fm.size, sizeL]; omega)
 ·split
  ·refine one _ (Fm.all_nd ⟨.inr (.inr (.inr ⟨?_, rfl, rfl⟩)), fun h => ?_⟩ fun _ h => by cases h) (by rw [Fm.size, sizeL]; omega)
   ·rcases Nat.mod_two_eq_zero_or_one (b / 8) with h | h <;> rw [h]
    ·exact .inl rfl
    ·exact .inr rfl
   ·omega
  ·split
   ·refine ⟨fun s hs => ?_, ?_⟩
    ·rw [List.mem_singleton] at hs
     subst hs
     refine Fm.all_nd ⟨.inr (.inl ⟨rfl, rfl, rfl⟩), fun h => by omega⟩ fun s hs => ?_
     rw [List.mem_singleton] at hs
     subst hs
     exact leaf _
    ·rw [sizeL, sizeL, Fm.size, sizeL, sizeL, Fm.size, sizeL]; omega
   ·rename_i q1 q2 q3
    obtain ⟨j, hj⟩ : ∃ j, j = st.length - mkT b st.length := ⟨_, rfl⟩
    have hT := mkT_le b st.length
    have hsz := sizeL_app (st.take j) (st.drop j)
    rw [List.take_append_drop] at hsz
    have hdl := len_size (st.drop j)
    rw [← hj]
    refine ⟨fun s hs => ?_, ?_⟩
    ·rcases List.mem_append.1 hs with hs | hs
     ·exact h1 s ((List.take_sublist j st).subset hs)
     ·rw [List.mem_singleton] at hs
      subst hs
      refine Fm.all_nd ⟨?_, fun h => ?_⟩ fun s hs => h1 s ((List.drop_sublist j st).subset hs)
      ·unfold mkK
       by_cases h4 : b % 8 = 4
       ·rw [if_pos h4]
        refine .inr (.inl ⟨rfl, rfl, ?_⟩)
        have : st.length ≠ 0 := fun h => q3 ⟨h4, h⟩
        have e : mkT b st.length = 1 := by unfold mkT; rw [if_pos h4]; omega
        rw [List.length_drop]; omega
       ·rw [if_neg h4]
        refine .inr (.inr (.inl ⟨?_, rfl, by omega⟩))
        rcases Nat.mod_two_eq_zero_or_one (b / 8) with h | h <;> rw [h]
        ·exact .inl rfl
        ·exact .inr rfl
      ·unfold mkK at h
       split at h <;> omega
    ·rw [sizeL_app, sizeL, sizeL, Fm.size]
     omega
theorem mkL_ok (l : List Nat) : ∀ k, k ≤ 30 → k ≤ l.length → StOK (mkL l k) (2 * k)
 | 0, _, _ => ⟨(fun s h => by cases h), by rw [mkL_zero, sizeL]; exact Nat.le_refl _⟩
 | k + 1, h, hl => by
  rw [mkL_succ (by omega)]
  exact mkS_ok (n := 2 * k) (mkL_ok l k (by omega) (by omega)) (by omega)
theorem mkF_ok (l : List Nat) : (mkF l).all node6 ∧ (mkF l).size ≤ 61 ∧ (mkF l).depth ≤ 61 := by
 have key : (mkF l).all node6 ∧ (mkF l).size ≤ 61 := by
  have h := mkL_ok l (min l.length 30) (by omega) (by omega)
  unfold mkF
  split
  ·rename_i h1
   match hs : mkL l (min l.length 30), h1 with
   | [t], _ =>
    rw [hs] at h
    refine ⟨h.1 t (List.mem_singleton.2 rfl), ?_⟩
    have h2 := h.2
    rw [sizeL, sizeL] at h2
    show t.size ≤ 61
    omega
  ·have h2 := h.2
   have h3 := h.len
   exact ⟨Fm.all_nd ⟨.inr (.inr (.inl ⟨.inl rfl, rfl, by omega⟩)), fun h => by omega⟩ h.1, by rw [Fm.size]; omega⟩
 exact ⟨key.1, key.2, Nat.le_trans (Fm.depth_size _) key.2⟩
end Go.Proofs.YtaegjpancbmppaaGreatDoor
