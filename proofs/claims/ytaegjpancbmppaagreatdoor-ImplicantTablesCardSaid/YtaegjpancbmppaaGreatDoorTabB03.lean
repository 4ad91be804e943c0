/- Part 3 of 33 of the proof of the law: contracts of the functions that it reaches, and plain facts. Conditions: those that each contract names. -/
import Derived.Test.YtaegjpancbmppaaGreatDoorTabB02
import Derived.Test.YtaegjpancbmppaaGreatDoorChecked
import Derived.Deep.AppendLies
import Derived.OwnWalk
set_option linter.unusedVariables false
set_option linter.unusedSimpArgs false
namespace Go.Proofs.YtaegjpancbmppaaGreatDoor
open Go.RowKit
theorem infoIntI : (Tryz.prog.info? 3).map (fun i => (i.zero, i.size, i.bytes)) = some (some (.int .i64 0), 1, 8) := by kernel_rfl
theorem own_blI {w w' : World} {base : Nat} {e : TypeId} {size n : Nat} {v : Value} {xs : List Value} (h : w.ownsRow base e size v n xs) (hb : Below w.heap.size w w') : w'.ownsRow base e size v n xs := by
 refine ⟨h.1, ?_⟩
 rcases h.2 with h0 | ⟨g, cap, cur, hv, hbs, hg, hr⟩
 ·exact .inl h0
 ·refine .inr ⟨g, cap, cur, hv, hbs, ?_, hr⟩
  have hlt : g < w.heap.size := (Array.getElem?_eq_some_iff.1 hg).1
  exact (hb.block g hlt).trans hg
theorem own_lwI {w : World} {base base' : Nat} {e : TypeId} {size n : Nat} {v : Value} {xs : List Value} (h : w.ownsRow base e size v n xs) (hb : base' ≤ base) : w.ownsRow base' e size v n xs := by
 refine ⟨h.1, ?_⟩
 rcases h.2 with h0 | ⟨g, cap, cur, hv, hbs, hg, hr⟩
 ·exact .inl h0
 ·exact .inr ⟨g, cap, cur, hv, by omega, hg, hr⟩
theorem Hp.grwI {w W W' : World} {L : List (Nat × TypeId × List Value)} (h : Hp w L W) {row : Option Nat} (hg : W.grownBy W' row) (hr : ∀ q, row = some q → w.heap.size ≤ q ∧ ∀ p ∈ L, p.1 ≠ q) : Hp w L W' :=
 ⟨h.below.grown hg h.below.size (fun k e => (hr k e).1), fun p hp => ⟨(hg.block p.1 (h.blk p hp).1.lt (fun e => (hr _ e.symm).2 p hp rfl)).trans (h.blk p hp).1, (h.blk p hp).2⟩, h.apart⟩
theorem own_blk_neI {w : World} {base g : Nat} {e t : TypeId} {size n : Nat} {v : Value} {xs cs : List Value} (h : w.ownsRow base e size v n xs) (hg : Blk w g t cs) (hne : e ≠ t) : some g ≠ v.ownBlock := by
 rcases h.2 with ⟨rfl, _⟩ | ⟨g', cap, cur, rfl, _, hh, _⟩
 ·intro e; cases e
 ·intro he
  have : g = g' := by simpa [Value.ownBlock] using he
  subst this
  unfold Blk at hg
  rw [hg] at hh
  injection hh with h
  injection h with _ h2 _
  exact hne h2.symm
abbrev nv (x : Nat) : Value := .int .i64 (x : Int)
def lsN (B : Nat → Bool) (k : Nat) : List Nat := (List.range k).filter B
theorem lsN_succ (B : Nat → Bool) (k : Nat) : lsN B (k + 1) = lsN B k ++ if B k = true then [k] else [] := by
 unfold lsN
 rw [List.range_succ, List.filter_append, List.filter_cons]
 cases B k <;> simp
theorem lsN_len (B : Nat → Bool) (k : Nat) : (lsN B k).length ≤ k := by
 unfold lsN
 have := List.length_filter_le B (List.range k)
 rwa [List.length_range] at this
end Go.Proofs.YtaegjpancbmppaaGreatDoor
namespace Go.Proofs.YtaegjpancbmppaaGreatDoor
open Go.RowKit
theorem lsN_cRows (n c v : Nat) : lsN (fun r => r &&& c == v) (2 ^ n) = cRows n c v := rfl
def RwRel (w : World) (c v N : Nat) (u x : Value) (W : World) : Prop :=
 ∃ (k : Nat) (A : Option Addr) (cp : Nat), k ≤ N ∧ x = .int .i64 (k : Int) ∧ u = .slice A (lsN (fun r => r &&& c == v) k).length cp ∧ W.ownsRow w.heap.size 3 1 (.slice A (lsN (fun r => r &&& c == v) k).length cp) (lsN (fun r => r &&& c == v) k).length ((lsN (fun r => r &&& c == v) k).map nv) ∧ Hp w [(w.heap.size, 37, [nv c, nv v])] W
set_option maxRecDepth 1000000 in
set_option maxHeartbeats 4000000 in
theorem irows_any (n c v : Nat) (w : World) (hn : n ≤ 8) (hc : c < 256) (hv : v < 256) :
  Calls Tryz.prog 48 #[.agg #[nv c, nv v], .int .i64 (n : Int)] w fun e w' => ∃ (A : Option Addr) (cp : Nat), e = .returned (.slice A (cRows n c v).length cp) ∧ w'.ownsRow w.heap.size 3 1 (.slice A (cRows n c v).length cp) (cRows n c v).length ((cRows n c v).map nv) ∧ Below w.heap.size w w' := by
 rw [← lsN_cRows]
 obtain ⟨N, hN⟩ : ∃ N, N = 2 ^ n := ⟨_, rfl⟩
 have hN8 : N ≤ 256 := by rw [hN]; exact pow_le8 hn
 rw [← hN]
 have hsh : wrap64 (2 ^ n) = (N : Int) := by
  have e : ((2 : Int) ^ n) = (N : Int) := by rw [hN, Int.natCast_pow]; rfl
  rw [e]; unfold wrap64; omega
 obtain ⟨i0, hi0, hz0, hz1, hz2⟩ := info_parts infoIntI
 have HI0 := Lib.hid hi0
 have HZ0 := Lib.hid hz0
 have HZ1 := Lib.hid hz1
 have HZ2 := Lib.hid hz2
 have hm0 := (Hp.start w).new 37 [nv c, nv v]
 simp only [List.nil_append] at hm0
 have HM0 := Lib.hid hm0
 have HB := Lib.hid (And.intro hN8 (And.intro hc hv))
 clear hm0 hN hN8 hc hv hi0 hz0 hz1 hz2
 go_enter Tryz.func48, Tryz.ntmps48
 have HSH := Lib.hid hsh
 clear hsh
 go_wp2_with fail
 rw [HSH.out]
 go_loopw [5, 9] (fun u x wr => RwRel w c v N u x wr) (fun _ x _ => N - (intOf x).toNat)
 case atStart => exact ⟨0, none, 0, by omega, rfl, rfl, World.ownsRow_nil _ _ _ _, HM0.out⟩
 case round =>
  obtain ⟨k, A, cp, hk, rfl, rfl, hown, hm⟩ := hrel
  have HM := Lib.hid hm
  have HO := Lib.hid hown
  have hcp := own_cap hown
  clear hm hown
  by_cases hlt : k < N
  ·have hlk : (k : Int) < (N : Int) := by omega
   have c0 : wr.cell? ⟨w.heap.size, 0, none⟩ = some (.int .i64 (c : Int)) := (HM.out.at_ 0 rfl).cell 0
   have c1 : wr.cell? ⟨w.heap.size, 1, none⟩ = some (.int .i64 (v : Int)) := (HM.out.at_ 0 rfl).cell 1
   have hand : bits .and .i64 (k : Int) (c : Int) = ((k &&& c : Nat) : Int) := and_i64 (by have := HB.out; omega) (by have := HB.out; omega)
   have HLT := Lib.hid hlt
   have hlen := lsN_len (fun r => r &&& c == v) k
   have hk256 : k < 256 := by have := HB.out.1; omega
   obtain ⟨k2, hk2⟩ : ∃ z : Int, z = (k : Int) + 1 := ⟨_, rfl⟩
   have hwk : IntKind.i64.wrap ((k : Int) + 1) = k2 := by rw [hk2]; exact IntWalk.i64_in _ (by omega)
   have HK2 := Lib.hid hk2
   clear hk hlt hk2
   by_cases hcv : k &&& c = v
   ·have heq : (((k &&& c : Nat) : Int) == (v : Int)) = true := by rw [hcv]; simp
    have HLS := Lib.hid (show lsN (fun r => r &&& c == v) (k + 1) = lsN (fun r => r &&& c == v) k ++ [k] by rw [lsN_succ, if_pos (by simpa using hcv)])
    clear hcv
    go_wp2_with (at_builtin; refine wpList_append_own _ rfl _ _ 24 rfl w.heap.size 3 i0 (.int .i64 0) 1 8 Tryz.underlying24 HI0.out HZ0.out HZ1.out HZ2.out rfl (by decide) _ _ _ rfl (own_blI HO.out (bw_new (Below.refl _ _) _)) ⟨wr.heap.size, 0, none⟩ 1 1 [.int .i64 (k : Int)] rfl rfl (World.news_of_block (cs := #[.int .i64 (k : Int)]) (t := 3) (fr := (0, 0)) (heap_alloc_new wr _)) (by simp [Value.oneCell']) (by unfold maxLen; omega) (by omega) (by simp; have := HM.out.below.size; omega) ?_)
    intro v' w4 hown hgrow _
    obtain ⟨g3, c4, hv, hc4⟩ := own_form hown (by omega)
    subst hv
    have hm4 := (HM.out.alloc (.cells #[.int .i64 (k : Int)] 3)).grwI hgrow (fun q hq => ⟨(HO.out.lt _ hq).1, fun p hp => by
     have h1 := own_blk_neI (own_blI HO.out (bw_new (Below.refl _ _) (.cells #[.int .i64 (k : Int)] 3))) ((HM.out.alloc (.cells #[.int .i64 (k : Int)] 3)).at_ 0 rfl) (by decide)
     rw [List.mem_singleton] at hp
     subst hp
     exact fun e => h1 (by rw [hq, ← e])⟩)
    have HM4 := Lib.hid hm4
    have HO4 := Lib.hid hown
    clear hown hgrow hm4 c0 c1
    go_wp2_with fail
    go_roundw
    case rel =>
     refine ⟨k + 1, some ⟨g3, 0, none⟩, c4, by have := HLT.out; omega, by rw [HK2.out]; rfl, ?_, ?_, HM4.out⟩
     ·rw [HLS.out, List.length_append]; rfl
     ·rw [HLS.out, List.length_append, List.map_append]; exact HO4.out
    case measure => have := HLT.out; have := HK2.out; simp only [intOf]; omega
   ·have heq : (((k &&& c : Nat) : Int) == (v : Int)) = false := by rw [beq_eq_false_iff_ne]; intro e; exact hcv (Int.natCast_inj.1 e)
    have HLS := Lib.hid (show lsN (fun r => r &&& c == v) (k + 1) = lsN (fun r => r &&& c == v) k by rw [lsN_succ, if_neg (by simpa using hcv), List.append_nil])
    clear hcv
    go_wp2_with fail
    go_roundw
    case rel => exact ⟨k + 1, A, cp, by have := HLT.out; omega, by rw [HK2.out]; rfl, by rw [HLS.out], by rw [HLS.out]; exact HO.out, HM.out⟩
    case measure => have := HLT.out; have := HK2.out; simp only [intOf]; omega
  ·obtain rfl : k = N := by omega
   clear hlt hk
   go_wp2_with fail
   exact bodyPost_ret (v := .slice A (lsN (fun r => r &&& c == v) k).length cp) (by simp [results, Tryz.results48, go_sem]) rfl ⟨A, cp, rfl, HO.out, HM.out.below⟩
end Go.Proofs.YtaegjpancbmppaaGreatDoor
namespace Go.Proofs.YtaegjpancbmppaaGreatDoor
abbrev u8v (x : Nat) : Value := .int .u8 (x : Int)
end Go.Proofs.YtaegjpancbmppaaGreatDoor
