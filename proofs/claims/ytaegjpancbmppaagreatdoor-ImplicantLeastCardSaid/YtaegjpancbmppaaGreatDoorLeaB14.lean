/- Part 14 of 29 of the proof of the law: contracts of the functions that it reaches, and plain facts. Conditions: those that each contract names. -/
import Derived.Test.YtaegjpancbmppaaGreatDoorLeaB07
import Derived.Test.YtaegjpancbmppaaGreatDoorLeaB13
import Derived.Test.YtaegjpancbmppaaGreatDoorLeaB01
import Derived.Lib.SliceRun
import Derived.Laws.IdiomCopy
import Derived.Test.YtaegjpancbmppaaGreatDoorLeaB03
set_option linter.unusedVariables false
set_option linter.unusedSimpArgs false
namespace Go.Proofs.YtaegjpancbmppaaGreatDoor
open Go.RowKit
theorem pvK_len (n on may c m : Nat) : (pvK n on may c m).length ≤ m := by
 have := List.length_filter_le (fun v => decide (adn v c = 0 ∧ prP n on may c v)) (List.range m)
 rwa [List.length_range] at this
theorem pcK_len (n on may k : Nat) : ∀ m, m ≤ 16 → (pcK n on may k m).length ≤ m * 16
 | 0, _ => Nat.zero_le _
 | m + 1, h => by
  have ih := pcK_len n on may k m (by omega)
  have h1 := pvK_len n on may m (m + 1)
  rw [pvK_full] at h1
  rw [pcK_succ]
  split
  ·rw [List.length_append, List.length_map]; omega
  ·omega
theorem plK_len (n on may : Nat) (hn : 2 ^ n ≤ 16) : ∀ j, (plK n on may j).length ≤ j * 256
 | 0 => Nat.zero_le _
 | j + 1 => by
  have ih := plK_len n on may hn j
  have h1 := pcK_len n on may j (2 ^ n) hn
  rw [plK_succ, List.length_append]
  omega
def PsR (w W : World) (T : List Value) (X : List (Nat × Nat)) (u : Value) : Prop :=
 ∃ (A' : Option Addr) (m cp : Nat), u = .slice A' m cp ∧ m = X.length ∧ W.ownsRow (w.heap.size + 1) 37 2 (.slice A' m cp) m (X.flatMap cbL) ∧ Hp w [(w.heap.size, 26, T)] W
theorem PsR.step {w W W' : World} {T : List Value} {X : List (Nat × Nat)} {u : Value} (h : PsR w W T X u) (hb : Below W.heap.size W W') : PsR w W' T X u := by
 obtain ⟨A', m, cp, h1, h0, h2, h3⟩ := h
 exact ⟨A', m, cp, h1, h0, own_blI h2 hb, h3.step hb⟩
set_option maxRecDepth 1000000 in
set_option maxHeartbeats 8000000 in
theorem lprimes_any (A B : Option Addr) (c d n m q : Nat) (L K : List Int) (w : World) (h : TabAt w w.heap.size A B n m L K) (hL : ∀ x ∈ L, 0 ≤ x) (hK : ∀ x ∈ K, 0 ≤ x) (hq : q ≤ 4) :
  Calls Tryz.prog 15 #[.agg #[.int .i64 (q : Int), .slice A n c, .slice B m d]] w fun e w' => ∃ (A' : Option Addr) (cp : Nat), e = .returned (.slice A' (tPr q L K).length cp) ∧ w'.ownsRow w.heap.size 37 2 (.slice A' (tPr q L K).length cp) (tPr q L K).length ((tPr q L K).flatMap cbL) ∧ Below w.heap.size w w' := by
 obtain ⟨i0, hi0, hz0, hz1, hz2⟩ := info_parts infoCub
 have HI0 := Lib.hid hi0
 have HZ0 := Lib.hid hz0
 have HZ1 := Lib.hid hz1
 have HZ2 := Lib.hid hz2
 obtain ⟨on, hon⟩ : ∃ x, x = rowM (onR L) := ⟨_, rfl⟩
 obtain ⟨may, hmay⟩ : ∃ x, x = mayM L K := ⟨_, rfl⟩
 obtain ⟨R, hR⟩ : ∃ x, x = tPr q L K := ⟨_, rfl⟩
 have HR := Lib.hid (show R = plK q on may (q + 1) by rw [plK_full, hon, hmay, hR]; rfl)
 rw [← hR]
 have HP := Lib.hid (fun W (hb : Below w.heap.size w W) (a b : Nat) (ha : a < 256) (hb' : b < 256) => lprime_any A B c d n m q L K a b W (h.below hb) hL hK (by omega) ha hb')
 rw [← hon, ← hmay] at HP
 obtain ⟨N, hN⟩ : ∃ N, N = 2 ^ q := ⟨_, rfl⟩
 have hN8 : N ≤ 16 := by rw [hN]; exact Nat.pow_le_pow_right (n := 2) (by decide) hq
 have hsh : wrap64 (2 ^ q) = (N : Int) := by
  have e : ((2 : Int) ^ q) = (N : Int) := by rw [hN, Int.natCast_pow]; rfl
  rw [e]; unfold wrap64; omega
 have HSH := Lib.hid hsh
 have HNN := Lib.hid hN
 have hwn : IntKind.u64.wrap (q : Int) = (q : Int) := IntWalk.u64_in _ ⟨by omega, by omega⟩
 have hn64 : (q : Int) < 64 := by omega
 have hm0 := (Hp.start w).new 26 [.int .i64 (q : Int), .slice A n c, .slice B m d]
 simp only [List.nil_append] at hm0
 have HM0 := Lib.hid hm0
 have HO := Lib.hid (fun (x : Nat) W (h : x < 256) => lones_any x W h)
 obtain ⟨T, hT⟩ : ∃ T, T = [Value.int .i64 (q : Int), .slice A n c, .slice B m d] := ⟨_, rfl⟩
 have HTT := Lib.hid hT
 clear hi0 hz0 hz1 hz2 hon hmay hR hN hsh hm0 h hL hK hT
 go_enter Tryz.func15, Tryz.ntmps15
 go_wp2_with fail
 go_loopw [3, 4] (fun u x wr => ∃ j : Nat, j ≤ q + 1 ∧ x = .int .i64 (j : Int) ∧ PsR w wr T (plK q on may j) u) (fun _ x _ => q + 1 - (intOf x).toNat)
 case atStart => exact ⟨0, Nat.zero_le _, rfl, none, 0, 0, rfl, rfl, World.ownsRow_nil _ _ _ _, by rw [HTT.out]; exact HM0.out⟩
 case round =>
  obtain ⟨j, hj, rfl, hps⟩ := hrel
  have HPS := Lib.hid hps
  obtain ⟨A1, n1, cp1, rfl, hn1, ho1, hp1⟩ := hps
  have t0 : wr.cell? ⟨w.heap.size, 0, none⟩ = some (.int .i64 (q : Int)) := by have := (hp1.at_ 0 rfl).cell 0; rw [HTT.out] at this; exact this
  clear ho1 hp1 hn1
  by_cases hlt : j < q + 1
  ·have hjz : (j : Int) ≤ (q : Int) := by omega
   have HJ := Lib.hid hlt
   obtain ⟨j2, hj2⟩ : ∃ z : Int, z = (j : Int) + 1 := ⟨_, rfl⟩
   have hwj : IntKind.i64.wrap ((j : Int) + 1) = j2 := by rw [hj2]; exact IntWalk.i64_in _ (by omega)
   have HJ2 := Lib.hid hj2
   clear hj2 hlt hj
   go_wp2_with fail
   go_loopw [3, 5] (fun u x wx => ∃ k : Nat, k ≤ N ∧ x = .int .i64 (k : Int) ∧ PsR w wx T (plK q on may j ++ pcK q on may j k) u) (fun _ x _ => N - (intOf x).toNat)
   case atStart => exact ⟨0, Nat.zero_le _, rfl, by rw [pcK_zero, List.append_nil]; exact HPS.out⟩
   case round =>
    obtain ⟨wi, rfl⟩ : ∃ W, W = wr := ⟨_, rfl⟩
    obtain ⟨k, hk, rfl, hps⟩ := hrel
    have HPS2 := Lib.hid hps
    obtain ⟨A2, n2, cp2, rfl, hn2, ho2, hp2⟩ := hps
    have t0 : wi.cell? ⟨w.heap.size, 0, none⟩ = some (.int .i64 (q : Int)) := by have := (hp2.at_ 0 rfl).cell 0; rw [HTT.out] at this; exact this
    have hsh := HSH.out
    clear ho2 hp2 hn2
    by_cases hlt : k < N
    ·have hkz : (k : Int) < (N : Int) := by omega
     have HK := Lib.hid hlt
     obtain ⟨k2, hk2⟩ : ∃ z : Int, z = (k : Int) + 1 := ⟨_, rfl⟩
     have hwk : IntKind.i64.wrap ((k : Int) + 1) = k2 := by rw [hk2]; exact IntWalk.i64_in _ (by omega)
     have HK2 := Lib.hid hk2
     have hon := HO.out k wi (by omega)
     obtain ⟨pc, hpc⟩ : ∃ x, x = popc k := ⟨_, rfl⟩
     rw [← hpc] at hon
     have HON := Lib.hid hon
     have hst := pcK_succ q on may j k
     rw [← hpc] at hst
     have HST := Lib.hid hst
     clear hk2 hlt hk hpc hon hst
     go_wp2_with fail
     refine HON.out.mono ?_
     rintro e wx ⟨rfl, rfl⟩
     by_cases hpj : pc = j
     ·subst hpj
      have HS2 := Lib.hid (show pcK q on may pc (k + 1) = pcK q on may pc k ++ (prV q on may k).map (fun v => (k, v)) by rw [HST.out, if_pos rfl])
      go_wp2_with fail
      go_loopw [3, 6] (fun u x wx => ∃ i : Nat, i ≤ k + 1 ∧ x = .int .i64 (i : Int) ∧ PsR w wx T (plK q on may pc ++ pcK q on may pc k ++ (pvK q on may k i).map (fun v => (k, v))) u) (fun _ x _ => k + 1 - (intOf x).toNat)
      case atStart => exact ⟨0, Nat.zero_le _, rfl, by rw [pvK_zero, List.map_nil, List.append_nil]; exact HPS2.out⟩
      case round =>
       obtain ⟨wx, rfl⟩ : ∃ W, W = wr := ⟨_, rfl⟩
       obtain ⟨i, hi, rfl, hps⟩ := hrel
       have HPS3 := Lib.hid hps
       obtain ⟨A3, n3, cp3, rfl, hn3, ho3, hp3⟩ := hps
       have HN3 := Lib.hid hn3
       have HO3 := Lib.hid ho3
       have HP3 := Lib.hid hp3
       have hb3 : n3 ≤ 2048 := by
        have h1 := plK_len q on may (by rw [← HNN.out]; exact hN8) pc
        have h2 := pcK_len q on may pc k (by omega)
        have h3 := pvK_len q on may k i
        rw [hn3, List.length_append, List.length_append, List.length_map]
        have : k < 16 := by omega
        omega
       clear hn3 ho3 hp3 t0
       by_cases hik : i ≤ k
       ·have hiz : (i : Int) ≤ (k : Int) := by omega
        have HI := Lib.hid hik
        have hk16 : k < 16 := by omega
        have hk63 : k < 9223372036854775808 := by omega
        have hi63 : i < 9223372036854775808 := by omega
        have hk2q : k < 2 ^ q := by rw [← HNN.out]; exact HK.out
        obtain ⟨i2, hi2⟩ : ∃ z : Int, z = (i : Int) + 1 := ⟨_, rfl⟩
        have hwi : IntKind.i64.wrap ((i : Int) + 1) = i2 := by rw [hi2]; exact IntWalk.i64_in _ (by omega)
        have HI2 := Lib.hid hi2
        have hst := pvK_succ q on may k i
        have hand := adn_i64 hi63 hk63
        obtain ⟨z, hz⟩ : ∃ z, z = adn i k := ⟨_, rfl⟩
        rw [← hz] at hst hand
        have hpri := priB_iff (on := on) (may := may) (v := i) (show q ≤ 8 by omega) hk2q
        obtain ⟨P, hP⟩ : ∃ P, P = priB q on may k i := ⟨_, rfl⟩
        have hcl := HP.out (wx.alloc (.cells #[.int .i64 (k : Int), .int .i64 (i : Int)] 37)) (bw_new HP3.out.below _) k i (by omega) (by omega)
        rw [← hP] at hpri hcl
        have HCL := Lib.hid hcl
        have HS := Lib.hid hst
        have HPRI := Lib.hid hpri
        have hp3 := HP3.out
        rw [HTT.out] at hp3
        have t0 : wx.cell? ⟨w.heap.size, 0, none⟩ = some (.int .i64 (q : Int)) := (hp3.at_ 0 rfl).cell 0
        have t1 : wx.cell? ⟨w.heap.size, 1, none⟩ = some (.slice A n c) := (hp3.at_ 0 rfl).cell 1
        have t2 : wx.cell? ⟨w.heap.size, 2, none⟩ = some (.slice B m d) := (hp3.at_ 0 rfl).cell 2
        have hwl : w.heap.size < wx.heap.size := (hp3.at_ 0 rfl).lt
        clear hi2 hst hz hpri hcl hp3 hi hik hP hk63 hi63 hk2q
        by_cases h0 : z = 0
        ·subst h0
         have hand0 : bits .andNot .i64 (i : Int) (k : Int) = 0 := hand
         clear hand
         go_wp2_with fail
         refine HCL.out.mono ?_
         rintro e w5 ⟨rfl, hb5⟩
         have HB5 := Lib.hid hb5
         have hwx : wx.heap.size < w5.heap.size := by have := hb5.size; simp at this; omega
         have k0 : w5.cell? ⟨wx.heap.size, 0, none⟩ = some (.int .i64 (k : Int)) := (hb5.cell (p := ⟨wx.heap.size, 0, none⟩) (by simp)).trans (Blk.cell (heap_alloc_new wx (.cells [.int .i64 (k : Int), .int .i64 (i : Int)].toArray 37)) 0)
         have k1 : w5.cell? ⟨wx.heap.size, 1, none⟩ = some (.int .i64 (i : Int)) := (hb5.cell (p := ⟨wx.heap.size, 1, none⟩) (by simp)).trans (Blk.cell (heap_alloc_new wx (.cells [.int .i64 (k : Int), .int .i64 (i : Int)].toArray 37)) 1)
         clear hb5 t0 t1 t2
         have hbw : Below wx.heap.size wx w5 := (bw_new (Below.refl _ _) (.cells #[.int .i64 (k : Int), .int .i64 (i : Int)] 37)).trans (HB5.out.mono (by simp))
         have HBW := Lib.hid hbw
         clear hbw
         cases P with
         | false =>
          have HS2 := Lib.hid (show pvK q on may k (i + 1) = pvK q on may k i by rw [HS.out, if_neg (fun h => by have := HPRI.out.2 h.2; cases this)])
          go_wp2_with fail
          go_roundw
          case rel => exact ⟨i + 1, by have := HI.out; omega, by rw [HI2.out]; rfl, by rw [HS2.out]; exact HPS3.out.step HBW.out⟩
          case measure => have := HI.out; have := HI2.out; simp only [intOf]; omega
         | true =>
          have HS2 := Lib.hid (show pvK q on may k (i + 1) = pvK q on may k i ++ [i] by rw [HS.out, if_pos ⟨by trivial, HPRI.out.1 (by trivial)⟩])
          go_wp2_with (at_builtin; refine wpList_append_lies _ rfl _ _ 28 rfl (w.heap.size + 1) 37 i0 (.agg #[.int .i64 0, .int .i64 0]) 2 16 Tryz.underlying28 HI0.out HZ0.out HZ1.out HZ2.out rfl (by decide) _ _ _ rfl (own_blI HO3.out (bw_new HBW.out _)) ⟨w5.heap.size, 0, none⟩ 1 1 (cbL (k, i)) rfl rfl (World.news_of_block (cs := (cbL (k, i)).toArray) (t := 37) (fr := (0, 0)) (heap_alloc_new w5 _)) (by simp [Value.oneCell']) (by decide) (by unfold maxLen; omega) (by omega) (by simp; omega) _ rfl ?_)
          intro g4 c4 w4 hown4 hgrow4 hor4 hlt4
          have hpg := hp_grown HP3.out (by simp) (by omega) (bw_new HBW.out (.cells (cbL (k, i)).toArray 37)) HO3.out hgrow4
          have HOW := Lib.hid hown4
          have HPG := Lib.hid hpg
          clear hown4 hgrow4 hor4 hlt4 hpg
          go_wp2_with fail
          go_roundw
          case rel => exact ⟨i + 1, by have := HI.out; omega, by rw [HI2.out]; rfl, some ⟨g4, 0, none⟩, n3 + 1, c4, rfl, by rw [HS2.out, HN3.out]; simp; omega, by
           have h := HOW.out
           rw [HS2.out, List.map_append, ← List.append_assoc, List.flatMap_append, List.flatMap_append, List.flatMap_append, List.append_assoc, List.append_assoc]
           exact h, HPG.out⟩
          case measure => have := HI.out; have := HI2.out; simp only [intOf]; omega
        ·have hz1 : ((z : Int) == 0) = false := by rw [beq_eq_false_iff_ne]; omega
         have HS2 := Lib.hid (show pvK q on may k (i + 1) = pvK q on may k i by rw [HS.out, if_neg (fun h => h0 h.1)])
         go_wp2_with fail
         go_roundw
         case rel => exact ⟨i + 1, by have := HI.out; omega, by rw [HI2.out]; rfl, by rw [HS2.out]; exact HPS3.out.step (bw_new (Below.refl _ _) _)⟩
         case measure => have := HI.out; have := HI2.out; simp only [intOf]; omega
       ·obtain rfl : i = k + 1 := by omega
        have hiz : ¬ ((k + 1 : Nat) : Int) ≤ (k : Int) := by omega
        clear hi hik
        go_wp2_with fail
        go_roundw
        case rel => exact ⟨k + 1, HK.out, by rw [HK2.out]; rfl, by rw [HS2.out, ← List.append_assoc, ← pvK_full]; exact HPS3.out⟩
        case measure => have := HK.out; have := HK2.out; simp only [intOf]; omega
     ·have hpz : ((pc : Int) == (j : Int)) = false := by rw [beq_eq_false_iff_ne]; omega
      have HS2 := Lib.hid (show pcK q on may j (k + 1) = pcK q on may j k by rw [HST.out, if_neg hpj])
      go_wp2_with fail
      go_roundw
      case rel => exact ⟨k + 1, HK.out, by rw [HK2.out]; rfl, by rw [HS2.out]; exact HPS2.out⟩
      case measure => have := HK.out; have := HK2.out; simp only [intOf]; omega
    ·obtain rfl : k = N := by omega
     have hkz : ¬ (k : Int) < (k : Int) := by omega
     clear hk hlt
     go_wp2_with fail
     go_roundw
     case rel => exact ⟨j + 1, HJ.out, by rw [HJ2.out]; rfl, by rw [plK_succ, ← HNN.out]; exact HPS2.out⟩
     case measure => have := HJ.out; have := HJ2.out; simp only [intOf]; omega
  ·obtain rfl : j = q + 1 := by omega
   have hjz : ¬ ((q + 1 : Nat) : Int) ≤ (q : Int) := by omega
   obtain ⟨A4, n4, cp4, e4, hn4, ho4, hp4⟩ := HPS.out
   cases e4
   have HN4 := Lib.hid (And.intro hn4 (And.intro ho4 hp4))
   clear hj hlt hn4 ho4 hp4
   go_wp2_with fail
   have hl : n1 = R.length := by rw [HN4.out.1, HR.out]
   exact bodyPost_ret (v := .slice A1 n1 cp1) (by simp [results, Tryz.results15, go_sem]) rfl ⟨A1, cp1, by rw [← hl], by rw [← hl, HR.out]; exact own_lwI HN4.out.2.1 (by omega), HN4.out.2.2.below⟩
structure TgAt (X : World) (n M ab tb mb : Nat) : Prop where
 all : Blk X ab 3 [.int .i64 ((2 ^ n - 1 : Nat) : Int)]
 tab : tb < X.heap.size ∧ X.cell? ⟨tb, 0, none⟩ = some (.int .i64 (n : Int))
 may : Blk X mb 84 (setL M)
theorem TgAt.step {X W : World} {n M ab tb mb : Nat} (h : TgAt X n M ab tb mb) (hb : Below X.heap.size X W) : TgAt W n M ab tb mb :=
 ⟨(hb.block ab h.all.lt).trans h.all, ⟨Nat.lt_of_lt_of_le h.tab.1 hb.size, (hb.cell (p := ⟨tb, 0, none⟩) h.tab.1).trans h.tab.2⟩, (hb.block mb h.may.lt).trans h.may⟩
theorem tog_bits {n a b : Nat} (hn : n ≤ 8) (ha : a < 256) (hb : b < 256) : bits .andNot .i64 ((2 ^ n - 1 : Nat) : Int) (bits .xor .i64 (a : Int) (b : Int)) = ((adn (2 ^ n - 1) (a ^^^ b) : Nat) : Int) ∧ adn (2 ^ n - 1) (a ^^^ b) < 256 ∧ bits .and .i64 (a : Int) ((adn (2 ^ n - 1) (a ^^^ b) : Nat) : Int) = ((a &&& adn (2 ^ n - 1) (a ^^^ b) : Nat) : Int) ∧ a &&& adn (2 ^ n - 1) (a ^^^ b) < 256 := by
 have hp := pow_le8 hn
 have hx : a ^^^ b < 2 ^ 8 := Nat.xor_lt_two_pow (n := 8) ha hb
 have hy : adn (2 ^ n - 1) (a ^^^ b) ≤ 2 ^ n - 1 := adn_le _ _
 rw [xor_i64 (by omega) (by omega), adn_i64 (by omega) (by omega), and_i64 (by omega) (by omega)]
 exact ⟨rfl, by omega, rfl, Nat.lt_of_le_of_lt Nat.and_le_left ha⟩
def GdT (X : World) (n c v : Nat) (b : Bool) (A : Option Addr) (W : World) : Prop := Hp X [] W ∧ (b = true → Rd nv W W.heap.size A (cRows n c v))
theorem GdT.step {X W W' : World} {n c v : Nat} {b : Bool} {A : Option Addr} (h : GdT X n c v b A W) (hb : Below W.heap.size W W') : GdT X n c v b A W' :=
 ⟨h.1.step hb, fun e => ((h.2 e).below hb).more hb.size⟩
set_option maxRecDepth 1000000 in
set_option maxHeartbeats 4000000 in
theorem itog_any (n a b M ab tb mb : Nat) (X : World) (hn : n ≤ 8) (ha : a < 256) (hb : b < 256) (hT : TgAt X n M ab tb mb) :
  Calls Tryz.prog 47 #[nv a, nv b, .pointer (some ⟨ab, 0, none⟩), .pointer (some ⟨tb, 0, none⟩), .pointer (some ⟨mb, 0, none⟩)] X fun e w' => e = .returned (.bool (togB n M a b)) ∧ Below X.heap.size X w' := by
 obtain ⟨h1, h2, h3, h4⟩ := tog_bits hn ha hb
 obtain ⟨R, hR⟩ : ∃ R, R = togB n M a b := ⟨_, rfl⟩
 rw [← hR]
 unfold togB at hR
 obtain ⟨c, hc⟩ : ∃ c, c = adn (2 ^ n - 1) (a ^^^ b) := ⟨_, rfl⟩
 rw [← hc] at h1 h2 h3 h4 hR
 obtain ⟨v, hv⟩ : ∃ v, v = a &&& c := ⟨_, rfl⟩
 rw [← hv] at h3 h4 hR
 obtain ⟨z, hz⟩ : ∃ z : Int, z = ((2 ^ n - 1 : Nat) : Int) := ⟨_, rfl⟩
 rw [← hz] at h1
 have HRW := Lib.hid (fun W => irows_any n c v W hn h2 h4)
 have HOF := Lib.hid (fun W A cp h => iof_any A cp (cRows n c v).length (cRows n c v) W h (fun r hr => Nat.lt_of_lt_of_le (cRows_mem.1 hr).1 (pow_le8 hn)) rfl (by
  have h1 := lsN_len (fun r => r &&& c == v) (2 ^ n)
  have h2 := pow_le8 hn
  rw [lsN_cRows] at h1
  omega))
 have hwi := fun W => iwithin_any (cM n c v) M W (cM_lt hn)
 rw [show (adn (cM n c v) M == 0) = R from hR.symm] at hwi
 have HWI := Lib.hid hwi
 have HT := Lib.hid hT
 have q0 : X.cell? ⟨ab, 0, none⟩ = some (.int .i64 z) := by rw [hz]; exact hT.all.cell 0
 have hm0 := Hp.start X
 have HM0 := Lib.hid (show GdT X n c v false none _ from ⟨hm0, fun e => by cases e⟩)
 clear hm0 hn ha hb hT hc hv hz hR hwi
 go_enter Tryz.func47, Tryz.ntmps47
 go_upto_region 2 with fail
 refine wp_regionJ 12 #[false, false, false, false, false, false, false, false, false, false, false, false] (fun ll aa W => ∃ (m0 m1 m2 m3 m4 m5 m6 m7 m8 m9 m10 m11 : Bool) (gA : Option Addr) (gc : Nat), ll = #[m0, m1, m2, m3, m4, m5, m6, m7, m8, m9, m10, m11] ∧ aa = ({ tmps := #[nv a, nv b, Value.pointer (some { block := ab, off := 0 }), Value.pointer (some { block := tb, off := 0 }), Value.pointer (some { block := mb, off := 0 }), undef, undef, cwX m11 (.bool R) (Value.bool false), Value.int IntKind.i64 (c : Int), Value.int IntKind.i64 z, nv a, nv b, Value.int IntKind.i64 (bits BinOp.xor IntKind.i64 (a : Int) (b : Int)), Value.int IntKind.i64 (c : Int), cwX m0 (nv c) (undef), cwX m1 (nv a) (undef), cwX m2 (nv c) (undef), cwX m3 (nv v) (undef), cwX m4 (.agg #[nv c, nv v]) (undef), cwX m5 (.pointer (some ⟨tb, 0, none⟩)) (undef), cwX m6 (.int .i64 (n : Int)) (undef), cwX m7 (.slice gA (cRows n c v).length gc) (undef), cwX m8 (.agg (setL (cM n c v)).toArray) (undef), cwX m9 (.agg (setL M).toArray) (undef), cwX m10 (.bool R) (undef)], defers := [] } : Act) ∧ (True) ∧ GdT X n c v m7 gA W) (by kernel_rfl) (by kernel_rfl) (by kernel_rfl) (by kernel_rfl) ?_ ?_ ?_ ?_
 ·rintro ll aa W ⟨m0, m1, m2, m3, m4, m5, m6, m7, m8, m9, m10, m11, gA, gc, rfl, _⟩
  rfl
 ·exact ⟨false, false, false, false, false, false, false, false, false, false, false, false, none, 0, rfl, rfl, trivial, HM0.out.step (bw_drew (Below.refl _ _))⟩
 ·rintro ll aa W i o ⟨m0, m1, m2, m3, m4, m5, m6, m7, m8, m9, m10, m11, gA, gc, rfl, rfl, hi0, hm⟩ ho hun hall K hK
  have hi : i < 12 := (Array.getElem?_eq_some_iff.1 ho).1
  have HM := Lib.hid hm
  have HI := Lib.hid hi0
  clear hm hi0
  rcases (show i = 0 ∨ i = 1 ∨ i = 2 ∨ i = 3 ∨ i = 4 ∨ i = 5 ∨ i = 6 ∨ i = 7 ∨ i = 8 ∨ i = 9 ∨ i = 10 ∨ i = 11 by omega) with rfl | rfl | rfl | rfl | rfl | rfl | rfl | rfl | rfl | rfl | rfl | rfl
  ·cases ho
   simp at hun; subst hun
   clear hall hi
   go_simp
   exact hK.out _ _ ⟨true, m1, m2, m3, m4, m5, m6, m7, m8, m9, m10, m11, gA, gc, rfl, rfl, trivial, HM.out⟩
  ·cases ho
   simp at hun; subst hun
   clear hall hi
   go_simp
   exact hK.out _ _ ⟨m0, true, m2, m3, m4, m5, m6, m7, m8, m9, m10, m11, gA, gc, rfl, rfl, trivial, HM.out⟩
  ·cases ho
   simp at hun; subst hun
   clear hall hi
   go_simp
   exact hK.out _ _ ⟨m0, m1, true, m3, m4, m5, m6, m7, m8, m9, m10, m11, gA, gc, rfl, rfl, trivial, HM.out⟩
  ·cases ho
   cases (getBX hall 1 rfl : m1 = true)
   cases (getBX hall 2 rfl : m2 = true)
   simp at hun; subst hun
   clear hall hi
   go_simp
   exact hK.out _ _ ⟨m0, true, true, true, m4, m5, m6, m7, m8, m9, m10, m11, gA, gc, rfl, rfl, trivial, HM.out⟩
  ·cases ho
   cases (getBX hall 0 rfl : m0 = true)
   cases (getBX hall 3 rfl : m3 = true)
   simp at hun; subst hun
   clear hall hi
   go_simp
   exact hK.out _ _ ⟨true, m1, m2, true, true, m5, m6, m7, m8, m9, m10, m11, gA, gc, rfl, rfl, trivial, HM.out⟩
  ·cases ho
   simp at hun; subst hun
   clear hall hi
   go_simp
   exact hK.out _ _ ⟨m0, m1, m2, m3, m4, true, m6, m7, m8, m9, m10, m11, gA, gc, rfl, rfl, trivial, HM.out⟩
  ·cases ho
   cases (getBX hall 5 rfl : m5 = true)
   simp at hun; subst hun
   clear hall hi
   have q1 := (HT.out.step HM.out.1.below).tab.2
   go_simp
   exact hK.out _ _ ⟨m0, m1, m2, m3, m4, true, true, m7, m8, m9, m10, m11, gA, gc, rfl, rfl, trivial, HM.out⟩
  ·cases ho
   cases (getBX hall 4 rfl : m4 = true)
   cases (getBX hall 6 rfl : m6 = true)
   simp at hun; subst hun
   clear hall hi
   go_simp
   refine (HRW.out _).mono ?_
   rintro e W' ⟨A', cp', rfl, hown, hb⟩
   exact hK.out _ _ ⟨m0, m1, m2, m3, true, m5, true, true, m8, m9, m10, m11, A', cp', rfl, rfl, trivial, ⟨HM.out.1.step hb, fun _ => Rd.of_own hown rfl⟩⟩
  ·cases ho
   cases (getBX hall 7 rfl : m7 = true)
   simp at hun; subst hun
   clear hall hi
   go_simp
   refine (HOF.out _ _ _ (HM.out.2 rfl)).mono ?_
   rintro e W' ⟨rfl, hb⟩
   exact hK.out _ _ ⟨m0, m1, m2, m3, m4, m5, m6, true, true, m9, m10, m11, gA, gc, rfl, rfl, trivial, HM.out.step hb⟩
  ·cases ho
   simp at hun; subst hun
   clear hall hi
   obtain ⟨q2, q3, q4, q5⟩ := set_of (HT.out.step HM.out.1.below).may
   go_simp
   exact hK.out _ _ ⟨m0, m1, m2, m3, m4, m5, m6, m7, m8, true, m10, m11, gA, gc, rfl, rfl, trivial, HM.out⟩
  ·cases ho
   cases (getBX hall 8 rfl : m8 = true)
   cases (getBX hall 9 rfl : m9 = true)
   simp at hun; subst hun
   clear hall hi
   go_simp
   refine (HWI.out _).mono ?_
   rintro e W' ⟨rfl, hb⟩
   exact hK.out _ _ ⟨m0, m1, m2, m3, m4, m5, m6, m7, true, true, true, m11, gA, gc, rfl, rfl, trivial, HM.out.step hb⟩
  ·cases ho
   cases (getBX hall 10 rfl : m10 = true)
   simp at hun; subst hun
   clear hall hi
   go_simp
   exact hK.out _ _ ⟨m0, m1, m2, m3, m4, m5, m6, m7, m8, m9, true, true, gA, gc, rfl, rfl, trivial, HM.out⟩
 ·rintro ll aa W ⟨m0, m1, m2, m3, m4, m5, m6, m7, m8, m9, m10, m11, gA, gc, rfl, rfl, _, hm⟩ hall
  cases (hall 0 (by decide) : m0 = true)
  cases (hall 1 (by decide) : m1 = true)
  cases (hall 2 (by decide) : m2 = true)
  cases (hall 3 (by decide) : m3 = true)
  cases (hall 4 (by decide) : m4 = true)
  cases (hall 5 (by decide) : m5 = true)
  cases (hall 6 (by decide) : m6 = true)
  cases (hall 7 (by decide) : m7 = true)
  cases (hall 8 (by decide) : m8 = true)
  cases (hall 9 (by decide) : m9 = true)
  cases (hall 10 (by decide) : m10 = true)
  cases (hall 11 (by decide) : m11 = true)
  clear hall
  have HZ := Lib.hid hm.1
  clear hm HM0
  dsimp only [cwX, cond_true]
  go_wp2_with fail
  exact bodyPost_ret (v := .bool R) (by simp [results, Tryz.results47, go_sem]) rfl ⟨rfl, HZ.out.below⟩
set_option maxRecDepth 1000000 in
set_option maxHeartbeats 4000000 in
theorem idel_any (n a b M ab tb mb gb rb : Nat) (X : World) (hn : n ≤ 8) (ha : a < 256) (hb : b < 256) (hT : TgAt X n M ab tb mb) (hG : Blk X gb 94 [.func (.func 47) #[] #[.pointer (some ⟨ab, 0, none⟩), .pointer (some ⟨tb, 0, none⟩), .pointer (some ⟨mb, 0, none⟩)]]) (hR : Blk X rb 3 [nv a]) :
  Calls Tryz.prog 53 #[nv b, .pointer (some ⟨gb, 0, none⟩), .pointer (some ⟨rb, 0, none⟩)] X fun e w' => e = .returned (.bool (togB n M a b)) ∧ Below X.heap.size X w' := by
 have HC := Lib.hid (itog_any n a b M ab tb mb X hn ha hb hT)
 have q0 : X.cell? ⟨gb, 0, none⟩ = some (.func (.func 47) #[] #[.pointer (some ⟨ab, 0, none⟩), .pointer (some ⟨tb, 0, none⟩), .pointer (some ⟨mb, 0, none⟩)]) := hG.cell 0
 have q1 : X.cell? ⟨rb, 0, none⟩ = some (.int .i64 (a : Int)) := hR.cell 0
 obtain ⟨R, hR⟩ : ∃ R, R = togB n M a b := ⟨_, rfl⟩
 rw [← hR] at HC ⊢
 clear hn ha hb hT hG hR
 go_enter Tryz.func53, Tryz.ntmps53
 go_wp2_with fail
 refine HC.out.mono ?_
 rintro e W ⟨rfl, hb⟩
 have HB := Lib.hid hb
 clear hb
 go_wp2_with fail
 exact bodyPost_ret (v := .bool R) (by simp [results, Tryz.results53, go_sem]) rfl ⟨rfl, HB.out⟩
structure Chs (g : Nat) (w w' : World) : Prop where
 os : w'.os = w.os
 tape : w'.tape = w.tape
 output : w'.output = w.output
 size : w.heap.size ≤ w'.heap.size
 block : ∀ k, k < w.heap.size → k ≠ g → w'.heap[k]? = w.heap[k]?
theorem Chs.refl (g : Nat) (w : World) : Chs g w w := ⟨rfl, rfl, rfl, Nat.le_refl _, fun _ _ _ => rfl⟩
theorem Chs.trans {g : Nat} {w w1 w2 : World} (h : Chs g w w1) (k : Chs g w1 w2) : Chs g w w2 :=
 ⟨k.os.trans h.os, k.tape.trans h.tape, k.output.trans h.output, Nat.le_trans h.size k.size, fun i hi hg => (k.block i (Nat.lt_of_lt_of_le hi h.size) hg).trans (h.block i hi hg)⟩
theorem Chs.of_below {g : Nat} {w w' : World} (h : Below w.heap.size w w') : Chs g w w' := ⟨h.os, h.tape, h.output, h.size, fun k hk _ => h.block k hk⟩
theorem Chs.step {g : Nat} {w w1 w2 : World} (h : Chs g w w1) (k : Below w1.heap.size w1 w2) : Chs g w w2 := h.trans (.of_below k)
theorem Chs.set {g : Nat} {w w' : World} (h : Chs g w w') (o : Nat) (v : Value) : Chs g w (w'.setCell ⟨g, o, none⟩ v) :=
 h.trans ⟨rfl, rfl, rfl, by simp, fun k _ hk => Below.heap_setCell w' ⟨g, o, none⟩ v k hk⟩
theorem Chs.setCells {g : Nat} {w : World} : ∀ (vs : List Value) (o : Nat) {w' : World}, Chs g w w' → Chs g w (w'.setCells g o vs)
 | [], _, _, h => h
 | v :: vs, o, w', h => Chs.setCells vs (o + 1) (h.set o v)
theorem Chs.below {g B : Nat} {w w' : World} (h : Chs g w w') (hB : B ≤ g) (hw : B ≤ w.heap.size) : Below B w w' :=
 ⟨h.os, h.tape, h.output, h.size, fun k hk => h.block k (by omega) (by omega)⟩
def RwF (W : World) (g n : Nat) (f : Nat → Nat) : Prop := ∃ cs : List Value, Blk W g 3 cs ∧ n ≤ cs.length ∧ ∀ t, t < n → cs[t]? = some (nv (f t))
theorem RwF.cell {W : World} {g n t : Nat} {f : Nat → Nat} (h : RwF W g n f) (ht : t < n) : W.cell? ⟨g, t, none⟩ = some (.int .i64 (f t : Int)) ∧ W.frozen? ⟨g, t, none⟩ = false := by
 obtain ⟨cs, h1, h2, h3⟩ := h
 exact ⟨(h1.cell t).trans (h3 t ht), h1.frozen t⟩
theorem RwF.lt {W : World} {g n : Nat} {f : Nat → Nat} (h : RwF W g n f) : g < W.heap.size := by
 obtain ⟨cs, h1, _⟩ := h
 exact h1.lt
theorem RwF.step {W W' : World} {g n : Nat} {f : Nat → Nat} (h : RwF W g n f) (hb : Below W.heap.size W W') : RwF W' g n f := by
 obtain ⟨cs, h1, h2, h3⟩ := h
 exact ⟨cs, (hb.block g h1.lt).trans h1, h2, h3⟩
theorem RwF.put {W : World} {g n i : Nat} {f : Nat → Nat} (h : RwF W g n f) (hi : i < n) (v : Nat) : RwF (W.setCell ⟨g, i, none⟩ (.int .i64 (v : Int))) g n (fun t => if t = i then v else f t) := by
 obtain ⟨cs, h1, h2, h3⟩ := h
 refine ⟨cs.set i (.int .i64 (v : Int)), h1.put i _, by simpa using h2, fun t ht => ?_⟩
 rw [List.getElem?_set]
 by_cases e : i = t
 ·subst e
  dsimp only
  rw [if_pos rfl, if_pos rfl, if_pos (by omega)]
 ·dsimp only
  rw [if_neg e, if_neg (fun k : t = i => e k.symm)]
  exact h3 t ht
theorem RwF.of_own {W : World} {base n c : Nat} {g : Nat} {L : List Nat} (h : W.ownsRow base 3 1 (.slice (some ⟨g, 0, none⟩) n c) n (L.map nv)) (hn : n = L.length) : RwF W g n (fun t => L.getD t 0) ∧ n ≤ c := by
 rcases h.2 with ⟨h', _⟩ | ⟨g', cap, cur, hv, hb, hg, hnc, hmx, hs, ht⟩
 ·cases h'
 ·injection hv with e1 e2 e3
  injection e1 with e1
  injection e1 with e1 _ _
  subst e1; subst e3
  refine ⟨⟨cur.toList, hg, by rw [Array.length_toList, hs]; omega, fun t htn => ?_⟩, hnc⟩
  have h2 : (cur.toList.take (n * 1))[t]? = (L.map nv)[t]? := by rw [ht]
  rw [List.getElem?_take, if_pos (by omega)] at h2
  dsimp only
  rw [h2, List.getElem?_map, List.getElem?_eq_getElem (by omega), List.getD_eq_getElem?_getD, List.getElem?_eq_getElem (by omega)]
  rfl
def DlAns (w : World) (g gb rb : Nat) (L : List Nat) (p : Nat → Bool) : Prop :=
 ∀ W, Chs g w W → ∀ x ∈ L, Calls Tryz.prog 53 #[nv x, .pointer (some ⟨gb, 0, none⟩), .pointer (some ⟨rb, 0, none⟩)] W fun e w' => e = .returned (.bool (p x)) ∧ Below W.heap.size W w'
def ixF (p : Nat → Bool) (L : List Nat) : Int := match L.findIdx? p with | some i => (i : Int) | none => -1
theorem ixF_hit {p : Nat → Bool} {L : List Nat} {k : Nat} (hk : k < L.length) (hp : p (L.getD k 0) = true) (hall : ∀ j, j < k → p (L.getD j 0) = false) : ixF p L = (k : Int) := by
 unfold ixF
 have hg : ∀ j (h : j < L.length), L.getD j 0 = L[j] := fun j h => by rw [List.getD_eq_getElem?_getD, List.getElem?_eq_getElem h]; rfl
 have : L.findIdx? p = some k := by
  rw [List.findIdx?_eq_some_iff_getElem]
  refine ⟨hk, by rw [← hg k hk]; exact hp, fun j hj => ?_⟩
  rw [← hg j (by omega), hall j hj]; simp
 rw [this]
theorem ixF_none {p : Nat → Bool} {L : List Nat} (hall : ∀ j, j < L.length → p (L.getD j 0) = false) : ixF p L = -1 := by
 unfold ixF
 have : L.findIdx? p = none := by
  rw [List.findIdx?_eq_none_iff]
  intro x hx
  obtain ⟨j, hj, rfl⟩ := List.getElem_of_mem hx
  have := hall j hj
  rwa [List.getD_eq_getElem?_getD, List.getElem?_eq_getElem hj] at this
 rw [this]
set_option maxRecDepth 1000000 in
set_option maxHeartbeats 4000000 in
theorem iindex_any (p : Nat → Bool) (g gb rb n c : Nat) (L : List Nat) (w : World) (hr : RwF w g n (fun t => L.getD t 0)) (hn : n = L.length) (hn1 : n ≤ 1000) (hd : DlAns w g gb rb L p) :
  Calls Tryz.prog 74 #[.slice (some ⟨g, 0, none⟩) n c, .func (.func 53) #[] #[.pointer (some ⟨gb, 0, none⟩), .pointer (some ⟨rb, 0, none⟩)]] w fun e w' => e = .returned (.int .i64 (ixF p L)) ∧ Below w.heap.size w w' := by
 have HR := Lib.hid hr
 have HN := Lib.hid hn
 have HD := Lib.hid hd
 clear hr hn hd
 go_enter Tryz.func74, Tryz.ntmps74
 go_wp2_with fail
 go_loopw [5, 8] (fun _ x wr => ∃ k : Nat, k ≤ n ∧ x = .int .i64 (k : Int) ∧ (∀ j, j < k → p (L.getD j 0) = false) ∧ Below w.heap.size w wr) (fun _ x _ => n - (intOf x).toNat)
 case atStart => exact ⟨0, Nat.zero_le _, rfl, fun j h => absurd h (Nat.not_lt_zero _), Below.refl _ _⟩
 case round =>
  obtain ⟨k, hk, rfl, hall, hb⟩ := hrel
  have HA := Lib.hid hall
  have HB := Lib.hid hb
  clear hall hb
  by_cases hlt : k < n
  ·obtain ⟨q0, -⟩ := (HR.out.step HB.out).cell hlt
   have hca := HD.out wr (.of_below HB.out) (L.getD k 0) (by rw [List.getD_eq_getElem?_getD, List.getElem?_eq_getElem (by have := HN.out; omega)]; exact List.getElem_mem _)
   obtain ⟨x, hx⟩ : ∃ x, x = L.getD k 0 := ⟨_, rfl⟩
   rw [← hx] at q0 hca
   obtain ⟨b, hbb⟩ : ∃ b, b = p x := ⟨_, rfl⟩
   rw [← hbb] at hca
   have HC := Lib.hid hca
   have HX := Lib.hid (show p (L.getD k 0) = b by rw [hbb, hx])
   have HLT := Lib.hid hlt
   obtain ⟨k2, hk2⟩ : ∃ z : Int, z = (k : Int) + 1 := ⟨_, rfl⟩
   have hwk : IntKind.i64.wrap ((k : Int) + 1) = k2 := by rw [hk2]; exact IntWalk.i64_in _ (by omega)
   have HK2 := Lib.hid hk2
   have hkn : (k : Int) < (n : Int) := by omega
   clear hca hx hbb hk2 hlt hk
   go_wp2_with fail
   refine HC.out.mono ?_
   rintro e w' ⟨rfl, hb'⟩
   have HB2 := Lib.hid (HB.out.trans (hb'.mono HB.out.size))
   clear hb' q0
   cases b with
   | true =>
    have HE := Lib.hid (show ixF p L = (k : Int) from ixF_hit (by have := HLT.out; have := HN.out; omega) HX.out HA.out)
    go_wp2_with fail
    exact bodyPost_ret (v := .int .i64 (k : Int)) (by simp [results, Tryz.results74, go_sem]) rfl ⟨by rw [HE.out], HB2.out⟩
   | false =>
    go_wp2_with fail
    go_roundw
    case rel => exact ⟨k + 1, by have := HLT.out; omega, by rw [HK2.out]; rfl, (fun j hj => by
     rcases Nat.lt_succ_iff_lt_or_eq.1 hj with h | rfl
     ·exact HA.out j h
     ·exact HX.out), HB2.out⟩
    case measure => have := HLT.out; have := HK2.out; simp only [intOf]; omega
  ·have HE := Lib.hid (show ixF p L = -1 from ixF_none fun j hj => HA.out j (by have := HN.out; omega))
   have hkn : ¬ (k : Int) < (n : Int) := by omega
   clear hlt hk
   go_wp2_with fail
   exact bodyPost_ret (v := .int .i64 (-1)) (by simp [results, Tryz.results74, go_sem]) rfl ⟨by rw [HE.out], HB.out⟩
structure KpI (p : Nat → Bool) (L : List Nat) (j i : Nat) (f : Nat → Nat) : Prop where
 len : i = ((L.take j).filter fun x => !p x).length
 lt : i < j
 low : ∀ t, t < i → f t = ((L.take j).filter fun x => !p x).getD t 0
 high : ∀ t, j ≤ t → t < L.length → f t = L.getD t 0
theorem take_sn {L : List Nat} {k : Nat} (h : k < L.length) : L.take (k + 1) = L.take k ++ [L.getD k 0] := by
 rw [List.take_succ_eq_append_getElem h, List.getD_eq_getElem?_getD, List.getElem?_eq_getElem h]; rfl
theorem KpI.start {p : Nat → Bool} {L : List Nat} {k : Nat} (hk : k < L.length) (hp : p (L.getD k 0) = true) (hall : ∀ j, j < k → p (L.getD j 0) = false) : KpI p L (k + 1) k (fun t => L.getD t 0) := by
 have h0 : (L.take k).filter (fun x => !p x) = L.take k := by
  rw [List.filter_eq_self]
  intro x hx
  obtain ⟨j, hj, rfl⟩ := List.getElem_of_mem hx
  rw [List.length_take] at hj
  have := hall j (by omega)
  rw [List.getD_eq_getElem?_getD, List.getElem?_eq_getElem (by omega)] at this
  rw [List.getElem_take]
  change p L[j] = false at this
  rw [this]; rfl
 have h1 : (L.take (k + 1)).filter (fun x => !p x) = L.take k := by
  rw [take_sn hk, List.filter_append, h0, List.filter_cons, hp]; simp
 refine ⟨by rw [h1, List.length_take]; omega, by omega, fun t ht => ?_, fun t _ _ => rfl⟩
 show L.getD t 0 = _
 rw [h1, List.getD_eq_getElem?_getD, List.getD_eq_getElem?_getD, List.getElem?_take, if_pos ht]
theorem KpI.skip {p : Nat → Bool} {L : List Nat} {j i : Nat} {f : Nat → Nat} (h : KpI p L j i f) (hj : j < L.length) (hp : p (L.getD j 0) = true) : KpI p L (j + 1) i f := by
 have h1 : (L.take (j + 1)).filter (fun x => !p x) = (L.take j).filter (fun x => !p x) := by
  rw [take_sn hj, List.filter_append, List.filter_cons, hp]; simp
 exact ⟨by rw [h1]; exact h.len, by have := h.lt; omega, fun t ht => by rw [h1]; exact h.low t ht, fun t h1 h2 => h.high t (by omega) h2⟩
theorem KpI.keep {p : Nat → Bool} {L : List Nat} {j i : Nat} {f : Nat → Nat} (h : KpI p L j i f) (hj : j < L.length) (hp : p (L.getD j 0) = false) : KpI p L (j + 1) (i + 1) (fun t => if t = i then L.getD j 0 else f t) := by
 have h1 : (L.take (j + 1)).filter (fun x => !p x) = (L.take j).filter (fun x => !p x) ++ [L.getD j 0] := by
  rw [take_sn hj, List.filter_append, List.filter_cons, hp]; simp
 refine ⟨by rw [h1, List.length_append, ← h.len]; rfl, by have := h.lt; omega, fun t ht => ?_, fun t k1 k2 => ?_⟩
 ·show (if t = i then _ else _) = _
  rw [h1]
  clear hp h1
  generalize L.getD j 0 = x
  rw [List.getD_eq_getElem?_getD]
  by_cases e : t = i
  ·subst e
   rw [if_pos rfl, List.getElem?_append_right (by rw [← h.len]; exact Nat.le_refl _), ← h.len, Nat.sub_self]
   rfl
  ·rw [if_neg e, List.getElem?_append_left (by rw [← h.len]; omega), ← List.getD_eq_getElem?_getD]
   exact h.low t (by omega)
 ·show (if t = i then _ else _) = _
  have := h.lt
  rw [if_neg (by omega)]
  exact h.high t (by omega) k2
def DlPost (p : Nat → Bool) (g : Nat) (L : List Nat) (w : World) (e : Ending) (w' : World) : Prop :=
 ∃ (A' : Option Addr) (c' : Nat), e = .returned (.slice A' (L.filter fun x => !p x).length c') ∧ (L.filter fun x => !p x).length ≤ c' ∧ c' ≤ 9223372036854775807 ∧ A' ≠ none ∧ Rd nv w' w'.heap.size A' (L.filter fun x => !p x) ∧ Chs g w w'
theorem ix_cases (p : Nat → Bool) (L : List Nat) : (ixF p L = -1 ∧ L.filter (fun x => !p x) = L) ∨ ∃ k, k < L.length ∧ ixF p L = (k : Int) ∧ p (L.getD k 0) = true ∧ ∀ j, j < k → p (L.getD j 0) = false := by
 unfold ixF
 have hg : ∀ j (h : j < L.length), L.getD j 0 = L[j] := fun j h => by rw [List.getD_eq_getElem?_getD, List.getElem?_eq_getElem h]; rfl
 cases hh : L.findIdx? p with
 | none =>
  refine .inl ⟨rfl, ?_⟩
  rw [List.filter_eq_self]
  intro x hx
  rw [List.findIdx?_eq_none_iff.1 hh x hx]; rfl
 | some k =>
  obtain ⟨h1, h2, h3⟩ := List.findIdx?_eq_some_iff_getElem.1 hh
  refine .inr ⟨k, h1, rfl, by rw [hg k h1]; exact h2, fun j hj => ?_⟩
  rw [hg j (by omega)]
  simpa using h3 j hj
set_option maxRecDepth 1000000 in
set_option maxHeartbeats 4000000 in
theorem idelete_any (p : Nat → Bool) (g gb rb n c : Nat) (L : List Nat) (w : World) (hr : RwF w g n (fun t => L.getD t 0)) (hn : n = L.length) (hn1 : n ≤ 1000) (hc : n ≤ c) (hc9 : c ≤ 9223372036854775807) (hd : DlAns w g gb rb L p) :
  Calls Tryz.prog 52 #[.slice (some ⟨g, 0, none⟩) n c, .func (.func 53) #[] #[.pointer (some ⟨gb, 0, none⟩), .pointer (some ⟨rb, 0, none⟩)]] w (DlPost p g L w) := by
 have HIX := Lib.hid (iindex_any p g gb rb n c L w hr hn hn1 hd)
 have HR := Lib.hid hr
 have HN := Lib.hid hn
 have HD := Lib.hid hd
 rcases ix_cases p L with ⟨h1, h2⟩ | ⟨k0, hk0, h1, hp0, hall0⟩
 ·rw [h1] at HIX
  have HF := Lib.hid h2
  clear hr hn hd h1 h2
  go_enter Tryz.func52, Tryz.ntmps52
  go_wp2_with fail
  refine HIX.out.mono ?_
  rintro e w' ⟨rfl, hb⟩
  have HB := Lib.hid hb
  clear hb
  go_wp2_with fail
  exact bodyPost_ret (v := .slice (some ⟨g, 0, none⟩) n c) (by simp [results, Tryz.results52, go_sem]) rfl ⟨_, c, by rw [HF.out, ← HN.out], by rw [HF.out, ← HN.out]; exact hc, hc9, by simp, by
   rw [HF.out]
   intro hl
   refine ⟨g, 0, rfl, (HR.out.step HB.out).lt, fun i hi => ?_⟩
   have := ((HR.out.step HB.out).cell (t := i) (by rw [HN.out]; exact hi)).1
   rw [Nat.zero_add, this, List.getD_eq_getElem?_getD, List.getElem?_eq_getElem hi]
   rfl, .of_below HB.out⟩
 ·rw [h1] at HIX
  have HK0 := Lib.hid (KpI.start hk0 hp0 hall0)
  have hk0n : k0 < n := by omega
  obtain ⟨k1, hk1⟩ : ∃ z : Int, z = (k0 : Int) + 1 := ⟨_, rfl⟩
  have hwk0 : IntKind.i64.wrap ((k0 : Int) + 1) = k1 := by rw [hk1]; exact IntWalk.i64_in _ (by omega)
  have hne1 : ((k0 : Int) == -1) = false := beq_eq_false_iff_ne.2 (by omega)
  have HK1 := Lib.hid hk1
  clear hr hn hd h1 hk0 hp0 hall0 hk1
  go_enter Tryz.func52, Tryz.ntmps52
  go_wp2_with fail
  refine HIX.out.mono ?_
  rintro e w' ⟨rfl, hb⟩
  have HB := Lib.hid hb
  clear hb
  go_wp2_with fail
  go_loopw [5, 6, 7] (fun u x _ wr => ∃ (i j : Nat) (f : Nat → Nat), u = .int .i64 (i : Int) ∧ x = .int .i64 (j : Int) ∧ j ≤ n ∧ KpI p L j i f ∧ RwF wr g n f ∧ Chs g w wr) (fun _ x _ _ => n - (intOf x).toNat)
  case atStart => exact ⟨k0, k0 + 1, _, rfl, by rw [HK1.out]; rfl, by omega, HK0.out, HR.out.step HB.out, .of_below HB.out⟩
  case round =>
   obtain ⟨i, j, f, rfl, rfl, hjn, hkp, hrw, hch⟩ := hrel
   have HKP := Lib.hid hkp
   have HRW := Lib.hid hrw
   have HCH := Lib.hid hch
   have hij := hkp.lt
   clear hkp hrw hch
   by_cases hlt : j < n
   ·obtain ⟨q0, -⟩ := HRW.out.cell hlt
    obtain ⟨q1, q2⟩ := HRW.out.cell (t := i) (by omega)
    rw [HKP.out.high j (Nat.le_refl _) (by rw [← HN.out]; exact hlt)] at q0
    have hca := HD.out wr HCH.out (L.getD j 0) (by rw [List.getD_eq_getElem?_getD, List.getElem?_eq_getElem (by have := HN.out; omega)]; exact List.getElem_mem _)
    obtain ⟨x, hx⟩ : ∃ x, x = L.getD j 0 := ⟨_, rfl⟩
    rw [← hx] at q0 hca
    obtain ⟨y, hy⟩ : ∃ y, y = f i := ⟨_, rfl⟩
    rw [← hy] at q1
    obtain ⟨b, hbb⟩ : ∃ b, b = p x := ⟨_, rfl⟩
    rw [← hbb] at hca
    have HC := Lib.hid hca
    have HX := Lib.hid (show p (L.getD j 0) = b by rw [hbb, hx])
    have HXX := Lib.hid hx
    have HLT := Lib.hid hlt
    obtain ⟨j2, hj2⟩ : ∃ z : Int, z = (j : Int) + 1 := ⟨_, rfl⟩
    have hwj : IntKind.i64.wrap ((j : Int) + 1) = j2 := by rw [hj2]; exact IntWalk.i64_in _ (by omega)
    obtain ⟨i2, hi2⟩ : ∃ z : Int, z = (i : Int) + 1 := ⟨_, rfl⟩
    have hwi : IntKind.i64.wrap ((i : Int) + 1) = i2 := by rw [hi2]; exact IntWalk.i64_in _ (by omega)
    have HJ2 := Lib.hid hj2
    have HI2 := Lib.hid hi2
    have hjnz : (j : Int) < (n : Int) := by omega
    have hinz : i < n := by omega
    clear hca hx hy hbb hj2 hi2 hlt hjn
    go_wp2_with fail
    refine HC.out.mono ?_
    rintro e w' ⟨rfl, hb'⟩
    have HCH2 := Lib.hid (HCH.out.step hb')
    have HRW2 := Lib.hid (HRW.out.step hb')
    clear hb' q0 q1 q2
    cases b with
    | true =>
     go_wp2_with fail
     go_roundw
     case rel => exact ⟨i, j + 1, f, rfl, by rw [HJ2.out]; rfl, by have := HLT.out; omega, HKP.out.skip (by rw [← HN.out]; exact HLT.out) HX.out, HRW2.out, HCH2.out⟩
     case measure => have := HLT.out; have := HJ2.out; simp only [intOf]; omega
    | false =>
     obtain ⟨q1, q2⟩ := HRW2.out.cell (t := i) hinz
     go_wp2_with fail
     go_roundw
     case rel => exact ⟨i + 1, j + 1, _, by rw [HI2.out]; rfl, by rw [HJ2.out]; rfl, by have := HLT.out; omega, HKP.out.keep (by rw [← HN.out]; exact HLT.out) HX.out, by rw [← HXX.out]; exact HRW2.out.put hinz x, HCH2.out.set i _⟩
     case measure => have := HLT.out; have := HJ2.out; simp only [intOf]; omega
   ·obtain rfl : j = n := by omega
    have hltz : ¬ (j : Int) < (j : Int) := by omega
    have hcl : ∀ ty, (Builtin.clear_ #[24] ty #[.slice (some ⟨g, i, none⟩) (j - i) (c - i)]).run Tryz.prog wr = .ok (.tuple #[]) (wr.setCells g i (List.replicate (j - i) (.int .i64 0))) :=
     fun ty => Lib.run_clear_slice wr _ _ ty _ Tryz.underlying24 Tryz.zeroValue3 rfl rfl g i _ _ (by omega) (fun t ht => by rw [(HRW.out.cell (t := i + t) (by omega)).1]; rfl) (fun t ht => (HRW.out.cell (t := i + t) (by omega)).2)
    have hij2 : (i : Int) < (j : Int) := by omega
    have HLE := Lib.hid (show i = (L.filter fun x => !p x).length by
     have := HKP.out.len
     rwa [List.take_of_length_le (by rw [HN.out]; exact Nat.le_refl _)] at this)
    have HFIN := Lib.hid (show Rd nv (wr.setCells g i (List.replicate (j - i) (.int .i64 0))) (wr.setCells g i (List.replicate (j - i) (.int .i64 0))).heap.size (some ⟨g, 0, none⟩) (L.filter fun x => !p x) from fun _ => by
     refine ⟨g, 0, rfl, Nat.lt_of_lt_of_le HRW.out.lt (Chs.setCells _ _ (Chs.refl g wr)).size, fun t ht => ?_⟩
     rw [Nat.zero_add, World.cell?_setCells_out g _ i wr ⟨g, t, none⟩ (fun _ _ => .inl (by show t < i; rw [HLE.out]; exact ht)), (HRW.out.cell (t := t) (by rw [← HLE.out] at ht; omega)).1, HKP.out.low t (by rw [HLE.out]; exact ht), List.take_of_length_le (by rw [HN.out]; exact Nat.le_refl _), List.getD_eq_getElem?_getD, List.getElem?_eq_getElem ht]
     rfl)
    have HCF := Lib.hid (Chs.setCells (List.replicate (j - i) (.int .i64 0)) i HCH.out)
    have hic : i ≤ c := by omega
    clear hlt hjn
    go_wp2_with fail
    exact bodyPost_ret (v := .slice (some ⟨g, 0, none⟩) i c) (by simp [results, Tryz.results52, go_sem]) rfl ⟨some ⟨g, 0, none⟩, c, by rw [← HLE.out], by rw [← HLE.out]; exact hic, hc9, by simp, HFIN.out, HCF.out⟩
inductive Fm where
 | nd (k a : Int) (l : List Fm)
def Fm.k : Fm → Int | .nd k _ _ => k
def Fm.a : Fm → Int | .nd _ a _ => a
def Fm.l : Fm → List Fm | .nd _ _ l => l
instance : Inhabited Fm := ⟨.nd 0 0 []⟩
inductive FsR (W : World) (S : Nat → Prop) : Option Addr → List Fm → Prop
 | nil (A : Option Addr) : FsR W S A []
 | mk (g off : Nat) (l : List Fm) (As : Nat → Option Addr) (cs : Nat → Nat) (hg : S g)
   (hc : ∀ i (h : i < l.length), W.cell? ⟨g, off + i * 3, none⟩ = some (.int .i64 (l[i]).k) ∧ W.cell? ⟨g, off + i * 3 + 1, none⟩ = some (.int .i64 (l[i]).a) ∧ W.cell? ⟨g, off + i * 3 + 2, none⟩ = some (.slice (As i) (l[i]).l.length (cs i)) ∧ (l[i]).l.length ≤ cs i)
   (hk : ∀ i (h : i < l.length), FsR W S (As i) (l[i]).l) : FsR W S (some ⟨g, off, none⟩) l
theorem FsR.keep {W W' : World} {S : Nat → Prop} (hS : ∀ b, S b → W'.heap[b]? = W.heap[b]?) {A : Option Addr} {l : List Fm} (h : FsR W S A l) : FsR W' S A l := by
 induction h with
 | nil A => exact .nil A
 | mk g off l As cs hg hc hk ih =>
  refine .mk g off l As cs hg (fun i h => ?_) ih
  have e : ∀ o, W'.cell? ⟨g, o, none⟩ = W.cell? ⟨g, o, none⟩ := fun o => by unfold World.cell?; rw [hS g hg]
  rw [e, e, e]
  exact hc i h
theorem FsR.mono {W : World} {S S' : Nat → Prop} (hS : ∀ b, S b → S' b) {A : Option Addr} {l : List Fm} (h : FsR W S A l) : FsR W S' A l := by
 induction h with
 | nil A => exact .nil A
 | mk g off l As cs hg hc hk ih => exact .mk g off l As cs (hS g hg) hc ih
theorem FsR.at_ {W : World} {S : Nat → Prop} {A : Option Addr} {l : List Fm} (h : FsR W S A l) (hl : 0 < l.length) : ∃ (g off : Nat) (As : Nat → Option Addr) (cs : Nat → Nat), A = some ⟨g, off, none⟩ ∧ S g ∧ (∀ i (h : i < l.length), W.cell? ⟨g, off + i * 3, none⟩ = some (.int .i64 (l[i]).k) ∧ W.cell? ⟨g, off + i * 3 + 1, none⟩ = some (.int .i64 (l[i]).a) ∧ W.cell? ⟨g, off + i * 3 + 2, none⟩ = some (.slice (As i) (l[i]).l.length (cs i)) ∧ (l[i]).l.length ≤ cs i) ∧ ∀ i (h : i < l.length), FsR W S (As i) (l[i]).l := by
 cases h with
 | nil A => exact absurd hl (by simp)
 | mk g off l As cs hg hc hk => exact ⟨g, off, As, cs, rfl, hg, hc, hk⟩
abbrev lowB (B : Nat) : Nat → Prop := fun b => b < B
theorem FsR.lowK {W W' : World} {B : Nat} (hb : Below B W W') {A : Option Addr} {l : List Fm} (h : FsR W (lowB B) A l) : FsR W' (lowB B) A l := h.keep fun b hB => hb.block b hB
theorem FsR.step {W W' : World} (hb : Below W.heap.size W W') {A : Option Addr} {l : List Fm} (h : FsR W (lowB W.heap.size) A l) : FsR W' (lowB W'.heap.size) A l := (h.lowK hb).mono fun b hB => Nat.lt_of_lt_of_le hB hb.size
abbrev fcL (k a : Int) (A : Option Addr) (n c : Nat) : List Value := [.int .i64 k, .int .i64 a, .slice A n c]
def fcR (l : List Fm) (As : Nat → Option Addr) (cs : Nat → Nat) : Nat → List Value
 | 0 => []
 | n + 1 => fcR l As cs n ++ fcL (l.getD n default).k (l.getD n default).a (As n) (l.getD n default).l.length (cs n)
theorem fcR_len (l : List Fm) (As : Nat → Option Addr) (cs : Nat → Nat) : ∀ n, (fcR l As cs n).length = n * 3
 | 0 => rfl
 | n + 1 => by rw [fcR, List.length_append, fcR_len l As cs n]; simp; omega
theorem fcR_get (l : List Fm) (As : Nat → Option Addr) (cs : Nat → Nat) : ∀ n i j, i < n → j < 3 → (fcR l As cs n)[i * 3 + j]? = (fcL (l.getD i default).k (l.getD i default).a (As i) (l.getD i default).l.length (cs i))[j]?
 | 0, _, _, h, _ => absurd h (Nat.not_lt_zero _)
 | n + 1, i, j, h, hj => by
  rw [fcR]
  rcases Nat.lt_succ_iff_lt_or_eq.1 h with h' | rfl
  ·rw [List.getElem?_append_left (by rw [fcR_len]; omega)]
   exact fcR_get l As cs n i j h' hj
  ·rw [List.getElem?_append_right (by rw [fcR_len]; omega), fcR_len, Nat.add_sub_cancel_left]
theorem fcR_congr (l l' : List Fm) (As As' : Nat → Option Addr) (cs cs' : Nat → Nat) : ∀ n, (∀ i, i < n → l.getD i default = l'.getD i default ∧ As i = As' i ∧ cs i = cs' i) → fcR l As cs n = fcR l' As' cs' n
 | 0, _ => rfl
 | n + 1, h => by
  obtain ⟨h1, h2, h3⟩ := h n (Nat.lt_succ_self n)
  rw [fcR, fcR, fcR_congr l l' As As' cs cs' n (fun i hi => h i (by omega)), h1, h2, h3]
theorem FsR.of_own {W : World} {base n c : Nat} {A : Option Addr} {l : List Fm} {As : Nat → Option Addr} {cs : Nat → Nat} {S : Nat → Prop} (h : W.ownsRow base 53 3 (.slice A n c) n (fcR l As cs n)) (hn : n = l.length) (hS : ∀ g, A = some ⟨g, 0, none⟩ → S g) (hk : ∀ i (h : i < l.length), FsR W S (As i) (l[i]).l ∧ (l[i]).l.length ≤ cs i) : FsR W S A l := by
 rcases h.2 with ⟨hv, h0⟩ | ⟨g, cap, cur, hv, hb, hg, hnc, hmx, hs, ht⟩
 ·have : l = [] := List.length_eq_zero_iff.1 (by omega)
  subst this
  exact .nil A
 ·injection hv with e1 e2 e3
  subst e1
  refine .mk g 0 l As cs (hS g rfl) (fun i hi => ?_) (fun i hi => (hk i hi).1)
  have hgd : l.getD i default = l[i] := by rw [List.getD_eq_getElem?_getD, List.getElem?_eq_getElem hi]; rfl
  have hcell : ∀ j, j < 3 → W.cell? ⟨g, 0 + i * 3 + j, none⟩ = (fcL (l[i]).k (l[i]).a (As i) (l[i]).l.length (cs i))[j]? := fun j hj => by
   have h2 : (cur.toList.take (n * 3))[i * 3 + j]? = (fcR l As cs n)[i * 3 + j]? := by rw [ht]
   rw [List.getElem?_take, if_pos (by omega), fcR_get l As cs n i j (by omega) hj, hgd] at h2
   rw [cell_of_row W g _ cur _ (0, 0) hg, Nat.zero_add, ← Array.getElem?_toList, h2]
  exact ⟨hcell 0 (by decide), hcell 1 (by decide), hcell 2 (by decide), (hk i hi).2⟩
end Go.Proofs.YtaegjpancbmppaaGreatDoor
