/- Package tuner: run. Conditions: the steps lie in a slice of at most maxLen cells. -/
import Derived.Test.YtfickhncbahekaaDoorTunReg
import Derived.RegionTactic
import Derived.ChangeAlike
import Derived.Deep.DeepCutAuto
namespace Go.Proofs.YtfickhncbahekaaDoor
open Go.RowKit

/-- What run answers. -/
def RunPost (w : World) (f : Int) (L : List (Int × Int)) (A : Option Addr) (n cap : Nat) (e : Ending) (w' : World) : Prop :=
  Below w.heap.size w w' ∧ ((runE f L ≠ 0 ∧ e = .returned (.tuple #[.pointer none, .int .i64 (runE f L)])) ∨
    (runE f L = 0 ∧ ∃ (GA : Option Addr) (gn gc : Nat) (DA : Option Addr) (dn dc : Nat), e = .returned (.tuple #[.pointer (some ⟨w.heap.size + 3, 0, none⟩), .int .i64 0]) ∧ RPack w f L A n cap w.heap.size n GA gn gc DA dn dc w'))
theorem RunPost.err {w w' : World} {f : Int} {L : List (Int × Int)} {A : Option Addr} {n cap : Nat} {x : Int} (hb : Below w.heap.size w w') (h : runE f L = x) (hx : x ≠ 0) : RunPost w f L A n cap (.returned (.tuple #[.pointer none, .int .i64 x])) w' :=
  ⟨hb, .inl ⟨by rw [h]; exact hx, by rw [h]⟩⟩
theorem runE_at {f : Int} {L : List (Int × Int)} {k : Nat} {x : Int} (hf : isN f) (hn : L.length ≤ 200) (hk : k < L.length) (hok : ∀ j, j < k → okE f L j = 0) (h : okE f L k = x) (hx : x ≠ 0) : runE f L = x := by
  unfold runE
  rw [if_neg (fun e => e hf), if_neg (by omega), scanE_hit hok hk (by rw [h]; exact hx), h]
theorem runE_zero {f : Int} {L : List (Int × Int)} (hf : isN f) (hn : L.length ≤ 200) (hok : ∀ j, j < L.length → okE f L j = 0) : runE f L = 0 := by
  unfold runE
  rw [if_neg (fun e => e hf), if_neg (by omega), scanE_zero (fun j _ h => hok j (by omega))]

set_option maxRecDepth 1000000 in
set_option maxHeartbeats 4000000 in
theorem run_any (f : Int) (A : Option Addr) (n cap : Nat) (L : List (Int × Int)) (w : World) (hL : L.length = n) (hr : SRd w w.heap.size A L) (hc : n ≤ cap) (hm : cap ≤ maxLen) :
    Calls Tryd.prog 33 #[.agg #[.int .i64 f, .slice A n cap]] w (RunPost w f L A n cap) := by
  have HIN := Lib.hid (fun (x : Int) W => isNote_any x W)
  have hmm := @run_makeMap Tryd.prog
  by_cases hf : isN f
  · have hfb := (isNB_iff f).2 hf
    by_cases hn : 200 < n
    · have HE := Lib.hid (show runE f L = 4 by unfold runE; rw [if_neg (fun e => e hf), if_pos (by omega)])
      have hn' : (200 : Int) < n := by omega
      unfold maxLen at hm
      clear hL hr hf hn
      go_enter Tryd.func33, Tryd.ntmps33
      go_wp2_with fail
      refine (HIN.out _ _).mono ?_
      rintro e w1 ⟨rfl, rfl⟩
      rw [hfb]
      go_wp2
      go_ret2
      exact RunPost.err (bw_new (Below.refl _ _) _) HE.out (by decide)
    · unfold maxLen at hm
      have hb0 := bw_new (Below.refl _ w) (.cells #[.int .i64 f, .slice A n cap] 25)
      have hB0 : Blk (w.alloc (.cells #[.int .i64 f, .slice A n cap] 25)) w.heap.size 25 [.int .i64 f, .slice A n cap] := heap_alloc_new w _
      obtain ⟨W0, hW0⟩ : ∃ W0, W0 = w.alloc (.cells #[.int .i64 f, .slice A n cap] 25) := ⟨_, rfl⟩
      have hz0 : W0.heap.size = w.heap.size + 1 := by rw [hW0, World.size_alloc]
      have hM1 := MapC.new (K := iK) W0
      rw [hz0] at hM1
      obtain ⟨W1, hr1, hm1, hg1, hs1⟩ := run_store_new (K := iK) Tryd.underlying97 hM1 (mget_nil f) (wv (0, 0))
      have hz1 : W1.heap.size = w.heap.size + 2 := by rw [hs1, World.size_alloc, hz0]
      have hM2 := MapC.new (K := iK) W1
      rw [hz1] at hM2
      obtain ⟨W2, hr2, hm2, hg2, hs2⟩ := run_store_new (K := iK) Tryd.underlying98 hM2 (mget_nil f) (i64v (-1))
      have hz2 : W2.heap.size = w.heap.size + 3 := by rw [hs2, World.size_alloc, hz1]
      have hB2 : Blk W2 w.heap.size 25 [.int .i64 f, .slice A n cap] := by
        rw [← hW0] at hB0
        refine Blk.grw (Blk.alloc (Blk.grw (Blk.alloc hB0 _) hg1 ?_) _) hg2 ?_
        · simp
        · simp
      have hm12 : MapC iK W2 (w.heap.size + 1) ([] ++ [(f, wv (0, 0))]) := (hm1.alloc _).grown hg2 (by simp)
      have hb2 : Below w.heap.size w W2 := by
        rw [← hW0] at hb0
        exact ((bw_new (Below.grown (bw_new hb0 _) hg1 (by rw [World.size_alloc]; omega) (by intro r e; cases e; omega)) _).grown hg2 (by rw [World.size_alloc]; omega) (by intro r e; cases e; omega))
      have hp : RPack w f L A n cap w.heap.size 0 none 0 0 none 0 0 (W2.alloc (.cells #[.map (some (w.heap.size + 1)), .map (some (w.heap.size + 2)), .slice none 0 0, .slice none 0 0] 100)) := by
        refine ⟨hB2.alloc _, hm12.alloc _, hm2.alloc _, ?_, World.ownsRow_nil _ _ _ _, World.ownsRow_nil _ _ _ _, bw_new hb2 _, by rw [World.size_alloc]; omega, Nat.le_refl _, rfl, rfl⟩
        have := heap_alloc_new W2 (.cells #[.map (some (w.heap.size + 1)), .map (some (w.heap.size + 2)), .slice none 0 0, .slice none 0 0] 100)
        rw [hz2] at this
        exact this
      have HP := Lib.hid hp
      have hr1' : (Instr.mapUpdate 97 (.map (some (w.heap.size + 1))) (.int .i64 f) (.agg #[.int .i64 0, .int .i64 0])).run Tryd.prog ((w.alloc (.cells #[.int .i64 f, .slice A n cap] 25)).alloc (.map #[] 0)) = .ok () W1 := by rw [← hW0]; exact hr1
      have hr2' : (Instr.mapUpdate 98 (.map (some (w.heap.size + 2))) (.int .i64 f) (.int .i64 (-1))).run Tryd.prog (W1.alloc (.map #[] 0)) = .ok () W2 := hr2
      have HR1 := Lib.hid hr1'
      have HR2 := Lib.hid hr2'
      have HR := Lib.hid hr
      have HL := Lib.hid hL
      have q1 := hm12.mapB
      have b1c := hB2.cell 0
      have HZ1 := Lib.hid hz1
      have HZ2 := Lib.hid hz2
      have c1 : W1.cell? ⟨w.heap.size, 0, none⟩ = some (.int .i64 f) := by
        have h1 : Blk W1 w.heap.size 25 [.int .i64 f, .slice A n cap] := by
          rw [← hW0] at hB0
          exact Blk.grw (Blk.alloc hB0 _) hg1 (by simp)
        exact h1.cell 0
      have c2 : W2.cell? ⟨w.heap.size, 1, none⟩ = some (.slice A n cap) := hB2.cell 1
      have h200 : n ≤ 200 := by omega
      have HF := Lib.hid hf
      clear hr1 hr2 hr1' hr2' hr hL q1 b1c hz1 hz2 hz0 hW0 hb0 hB0 hM1 hM2 hm1 hm2 hg1 hg2 hs1 hs2 hB2 hm12 hb2 hp hn hf
      go_enter Tryd.func33, Tryd.ntmps33
      go_wp2_with fail
      refine (HIN.out _ _).mono ?_
      rintro e w1 ⟨rfl, rfl⟩
      rw [hfb]
      go_wp2_with fail
      rw [HR1.out]
      simp only [Result.andThen]
      rw [Oper.upon_skip]
      have hz1 := HZ1.out
      go_wp2_with fail
      rw [HR2.out]
      simp only [Result.andThen]
      rw [Oper.upon_skip]
      have hz2 := HZ2.out
      go_wp2_with fail
      go_loopw [37] (fun v wx => ∃ (k : Nat) (GA : Option Addr) (gn gc : Nat) (DA : Option Addr) (dn dc : Nat), k ≤ n ∧ v = .int .i64 k ∧ (∀ j, j < k → okE f L j = 0) ∧ RPack w f L A n cap w.heap.size k GA gn gc DA dn dc wx) (fun v _ => n - (intOf v).toNat)
      case atStart => exact ⟨0, _, _, _, _, _, _, by omega, rfl, fun j h => by omega, HP.out⟩
      case round =>
        obtain ⟨k, GA, gn, gc, DA, dn, dc, hk, rfl, hok, hp⟩ := hrel
        have HOK := Lib.hid hok
        have HQ := Lib.hid hp
        clear hok hp
        by_cases hlt : k < n
        · obtain ⟨bs, off, rfl, hbs, hcs⟩ := (HR.out.below HQ.out.low).at_ (by have := HL.out; omega)
          obtain ⟨s0, s1⟩ := hcs k (by have := HL.out; omega)
          obtain ⟨x, hx⟩ : ∃ x, x = L.getD k (0, 0) := ⟨_, rfl⟩
          rw [← hx] at s0 s1
          obtain ⟨p, q⟩ := x
          dsimp only at s0 s1
          have HX := Lib.hid hx
          clear hcs hx
          by_cases hp : isN p
          · by_cases hq : isN q
            · have hpb := (isNB_iff p).2 hp
              have hqb := (isNB_iff q).2 hq
              have HW := Lib.hid (fun W => way_any p q W hp hq)
              obtain ⟨wy, hwy⟩ : ∃ y, y = (wayOf (q - p)).getD (0, 0) := ⟨_, rfl⟩
              obtain ⟨iw, hiw⟩ : ∃ y, y = (wayOf (q - p)).isSome := ⟨_, rfl⟩
              rw [← hwy, ← hiw] at HW
              have HWY := Lib.hid hwy
              have HIW := Lib.hid hiw
              clear hwy hiw
              obtain ⟨wa, wb⟩ := wy
              have HB := Lib.hid hp
              have HC := Lib.hid hq
              clear hp hq
              go_wp2_with fail
              refine (HIN.out _ _).mono ?_
              rintro e w1 ⟨rfl, rfl⟩
              rw [hpb]
              go_wp2_with fail
              refine (HIN.out _ _).mono ?_
              rintro e w1 ⟨rfl, rfl⟩
              rw [hqb]
              go_wp2_with fail
              refine (HW.out _).mono ?_
              rintro e w3 ⟨rfl, hb3⟩
              have hS : Blk (wr.alloc (.cells #[.int .i64 p, .int .i64 q] 27)) wr.heap.size 27 [.int .i64 p, .int .i64 q] := heap_alloc_new wr _
              have HQ3 := Lib.hid ((HQ.out.step (bw_new (Below.refl _ _) _)).step hb3)
              have HS3 := Lib.hid (hS.step hb3)
              have hz3 : wr.heap.size + 1 ≤ w3.heap.size := by have := hb3.size; simpa using this
              unfold wv
              obtain ⟨W4, hW4⟩ : ∃ W4, W4 = w3.alloc (.cells #[.int .i64 wa, .int .i64 wb] 50) := ⟨_, rfl⟩
              have hz4 : W4.heap.size = w3.heap.size + 1 := by rw [hW4, World.size_alloc]
              have hQ4 : RPack w f L (some ⟨bs, off, none⟩) n cap w.heap.size k GA gn gc DA dn dc W4 := by rw [hW4]; exact HQ3.out.step (bw_new (Below.refl _ _) _)
              have hS4 : Blk W4 wr.heap.size 27 [.int .i64 p, .int .i64 q] := by rw [hW4]; exact HS3.out.alloc _
              have hY4 : Blk W4 w3.heap.size 50 [.int .i64 wa, .int .i64 wb] := by rw [hW4]; exact heap_alloc_new w3 _
              obtain ⟨kn, hkn⟩ : ∃ kn, kn = (lkz p (stT f L k).ways).isSome := ⟨_, rfl⟩
              obtain ⟨fy, hfy⟩ : ∃ fy, fy = (lkz p (stT f L k).ways).getD (0, 0) := ⟨_, rfl⟩
              have hlk : ∀ W, MapC iK W (w.heap.size + 1) (ents wv (stT f L k).ways) → (Instr.lookup 97 (.map (some (w.heap.size + 1))) (.int .i64 p) true).run Tryd.prog W = .ok (.tuple #[.agg #[.int .i64 fy.1, .int .i64 fy.2], .bool kn]) W := fun W hW => by
                rw [hkn, hfy]; exact look_wv hW p
              obtain ⟨fa, fb⟩ := fy
              have HKN := Lib.hid hkn
              have HFY := Lib.hid hfy
              have HQ4 := Lib.hid hQ4
              have HS4 := Lib.hid hS4
              have HY4 := Lib.hid hY4
              have hl1 := hlk W4.drew hQ4.m1.drew
              have hl2 := hlk (W4.alloc (.cells #[.int .i64 0, .int .i64 0] 50)).drew (hQ4.m1.alloc _).drew
              have t0 : W4.cell? ⟨w.heap.size + 3, 0, none⟩ = some (.map (some (w.heap.size + 1))) := hQ4.t.cell 0
              have s0 : W4.cell? ⟨wr.heap.size, 0, none⟩ = some (.int .i64 p) := hS4.cell 0
              have t0' : (W4.alloc (.cells #[.int .i64 0, .int .i64 0] 50)).cell? ⟨w.heap.size + 3, 0, none⟩ = some (.map (some (w.heap.size + 1))) := (hQ4.t.alloc _).cell 0
              have s0' : (W4.alloc (.cells #[.int .i64 0, .int .i64 0] 50)).cell? ⟨wr.heap.size, 0, none⟩ = some (.int .i64 p) := (hS4.alloc _).cell 0
              have hsz : w.heap.size + 4 ≤ W4.heap.size := hQ4.size
              have hs4 : wr.heap.size < W4.heap.size := hS4.lt
              dsimp only at hl1 hl2
              have HZ4 := Lib.hid hz4
              have HL1 := Lib.hid hl1
              have HL2 := Lib.hid hl2
              clear hQ4 hS4 hY4 hkn hfy hlk hz4 hl1 hl2
              clear hS hb3
              go_wp2_with fail
              rw [← hW4]
              clear hW4
              go_cut [9, 10] (fun s9 s10 wx => s9 = .pointer (some ⟨W4.heap.size, 0, none⟩) ∧ s10 = .bool kn ∧ wx = (W4.alloc (.cells #[.int .i64 fa, .int .i64 fb] 50)).drew)
              case first =>
                have hl1 := HL1.out
                have hl2 := HL2.out
                go_region
                all_goals
                  go_wp2_with fail
                  go_meet
                  case rel => exact ⟨rfl, rfl, rfl⟩
              case rest =>
                obtain ⟨rfl, rfl, rfl⟩ := hcut
                have hQ5 := (HQ4.out.step (bw_new (Below.refl _ _) (.cells #[.int .i64 fa, .int .i64 fb] 50))).step (bw_drew (Below.refl _ _))
                have hS5 : Blk (W4.alloc (.cells #[.int .i64 fa, .int .i64 fb] 50)).drew wr.heap.size 27 [.int .i64 p, .int .i64 q] := HS4.out.alloc _
                have hY5 : Blk (W4.alloc (.cells #[.int .i64 fa, .int .i64 fb] 50)).drew w3.heap.size 50 [.int .i64 wa, .int .i64 wb] := HY4.out.alloc _
                have hF5 : Blk (W4.alloc (.cells #[.int .i64 fa, .int .i64 fb] 50)).drew W4.heap.size 50 [.int .i64 fa, .int .i64 fb] := heap_alloc_new W4 _
                have hb9 : W4.heap.size = w3.heap.size + 1 := HZ4.out
                obtain ⟨W5, hW5⟩ : ∃ W5, W5 = (W4.alloc (.cells #[.int .i64 fa, .int .i64 fb] 50)).drew := ⟨_, rfl⟩
                rw [← hW5] at hQ5 hS5 hY5 hF5 ⊢
                clear hW5 HL1 HL2 t0 s0 t0' s0' hs4 hsz
                have HQ5 := Lib.hid hQ5
                have HS5 := Lib.hid hS5
                have HY5 := Lib.hid hY5
                have HF5 := Lib.hid hF5
                have HB9 := Lib.hid hb9
                clear hb9
                cases hiw : iw with
                | false =>
                  have hE : okE f L k = 7 := by
                    unfold okE stepE
                    rw [← HX.out, if_neg (fun e => e ⟨HB.out, HC.out⟩), if_pos (by have := HIW.out; rw [hiw] at this; simpa using this.symm)]
                  have HE := Lib.hid (RunPost.err (A := some ⟨bs, off, none⟩) (n := n) (cap := cap) hQ5.low (runE_at HF.out (by rw [HL.out]; exact h200) (by rw [HL.out]; exact hlt) HOK.out hE (by decide)) (by decide))
                  clear hQ5 hS5 hY5 hF5 hE hiw
                  go_wp2
                  go_ret2
                  exact HE.out
                | true =>
                  cases hkq : kn with
                  | false =>
                    have hE : okE f L k = 19 := by
                      unfold okE stepE
                      rw [← HX.out, if_neg (fun e => e ⟨HB.out, HC.out⟩), if_neg (by have := HIW.out; rw [hiw] at this; intro e; rw [e] at this; cases this), if_pos (by have := HKN.out; rw [hkq] at this; simpa using this.symm)]
                    have HE := Lib.hid (RunPost.err (A := some ⟨bs, off, none⟩) (n := n) (cap := cap) hQ5.low (runE_at HF.out (by rw [HL.out]; exact h200) (by rw [HL.out]; exact hlt) HOK.out hE (by decide)) (by decide))
                    clear hQ5 hS5 hY5 hF5 hE hiw hkq
                    go_wp2
                    go_ret2
                    exact HE.out
                  | true =>
                    have hE : okE f L k = 0 := by
                      unfold okE stepE
                      rw [← HX.out, if_neg (fun e => e ⟨HB.out, HC.out⟩), if_neg (by have := HIW.out; rw [hiw] at this; intro e; rw [e] at this; cases this), if_neg (by have := HKN.out; rw [hkq] at this; intro e; rw [e] at this; cases this)]
                    have HE := Lib.hid hE
                    have hs1 := wayOf_small (q - p)
                    rw [← HWY.out] at hs1
                    have hs2 := lkz_wayIn (n := p) (st_small f L k)
                    rw [← HFY.out] at hs2
                    unfold WayIn at hs2
                    dsimp only at hs1 hs2
                    have HPL := Lib.hid (fun W => plus_any (wa, wb) (fa, fb) 1 W ⟨by dsimp only; omega, by dsimp only; omega⟩ ⟨by dsimp only; omega, by dsimp only; omega⟩ ⟨by dsimp only; omega, by dsimp only; omega⟩ ⟨by dsimp only; omega, by dsimp only; omega⟩ (.inl rfl))
                    have hto : toW (stT f L k) (p, q) = (wa + 1 * fa, wb + 1 * fb) := by
                      unfold toW addW
                      dsimp only
                      rw [← HWY.out, ← HFY.out]
                      simp
                    have HS := Lib.hid (And.intro hs1 hs2)
                    obtain ⟨ta, hta⟩ : ∃ ta, ta = wa + 1 * fa := ⟨_, rfl⟩
                    obtain ⟨tb, htb⟩ : ∃ tb, tb = wb + 1 * fb := ⟨_, rfl⟩
                    unfold wv at HPL
                    dsimp only at HPL
                    rw [← hta, ← htb] at hto HPL
                    have HTO := Lib.hid hto
                    have HTA := Lib.hid (And.intro hta htb)
                    have y0 : W5.cell? ⟨w3.heap.size, 0, none⟩ = some (.int .i64 wa) := hY5.cell 0
                    have y1 : W5.cell? ⟨w3.heap.size, 1, none⟩ = some (.int .i64 wb) := hY5.cell 1
                    have f0 : W5.cell? ⟨W4.heap.size, 0, none⟩ = some (.int .i64 fa) := hF5.cell 0
                    have f1 : W5.cell? ⟨W4.heap.size, 1, none⟩ = some (.int .i64 fb) := hF5.cell 1
                    clear hQ5 hS5 hY5 hF5 hE hiw hkq hs1 hs2 hto hta htb
                    go_wp2_with fail
                    refine (HPL.out _).mono ?_
                    rintro e w6 ⟨rfl, hb6⟩
                    have hQ6 := HQ5.out.step hb6
                    have hS6 := HS5.out.step hb6
                    have hY6 := HY5.out.step hb6
                    have hz6 : W5.heap.size ≤ w6.heap.size := hb6.size
                    have hS0 : wr.heap.size < w3.heap.size := by omega
                    clear hb6 y0 y1 f0 f1
                    have hlow : w.heap.size + 4 ≤ w3.heap.size := by have := HQ.out.size; omega
                    obtain ⟨W7, hW7⟩ : ∃ W7, W7 = (w6.setCell ⟨w3.heap.size, 0, none⟩ (.int .i64 ta)).setCell ⟨w3.heap.size, 1, none⟩ (.int .i64 tb) := ⟨_, rfl⟩
                    have hQ7 : RPack w f L (some ⟨bs, off, none⟩) n cap w.heap.size k GA gn gc DA dn dc W7 := by rw [hW7]; exact (hQ6.set hlow HQ.out.off (by omega) _).set hlow HQ.out.off (by omega) _
                    have hS7 : Blk W7 wr.heap.size 27 [.int .i64 p, .int .i64 q] := by rw [hW7]; exact (hS6.far (by simp; omega) _).far (by simp; omega) _
                    have hY7 : Blk W7 w3.heap.size 50 [.int .i64 ta, .int .i64 tb] := by rw [hW7]; exact (hY6.put 0 _).put 1 _
                    have y0 : w6.cell? ⟨w3.heap.size, 0, none⟩ = some (.int .i64 wa) := hY6.cell 0
                    have y1 : w6.cell? ⟨w3.heap.size, 1, none⟩ = some (.int .i64 wb) := hY6.cell 1
                    have z0 : w6.frozen? ⟨w3.heap.size, 0, none⟩ = false := hY6.frozen 0
                    have z1 : w6.frozen? ⟨w3.heap.size, 1, none⟩ = false := hY6.frozen 1
                    clear hQ6 hS6 hY6
                    go_wp2_with fail
                    rw [← hW7]
                    clear hW7
                    obtain ⟨k2, hk2⟩ : ∃ k2, k2 = (lkz q (stT f L k).ways).isSome := ⟨_, rfl⟩
                    obtain ⟨oy, hoy⟩ : ∃ oy, oy = (lkz q (stT f L k).ways).getD (0, 0) := ⟨_, rfl⟩
                    have hlk : ∀ W, MapC iK W (w.heap.size + 1) (ents wv (stT f L k).ways) → (Instr.lookup 97 (.map (some (w.heap.size + 1))) (.int .i64 q) true).run Tryd.prog W = .ok (.tuple #[.agg #[.int .i64 oy.1, .int .i64 oy.2], .bool k2]) W := fun W hW => by
                      rw [hk2, hoy]; exact look_wv hW q
                    obtain ⟨oa, ob⟩ := oy
                    have HK2 := Lib.hid hk2
                    have HOY := Lib.hid hoy
                    have HQ7 := Lib.hid hQ7
                    have HS7 := Lib.hid hS7
                    have HY7 := Lib.hid hY7
                    have hl1 := hlk W7.drew hQ7.m1.drew
                    have hl2 := hlk (W7.alloc (.cells #[.int .i64 0, .int .i64 0] 50)).drew (hQ7.m1.alloc _).drew
                    have t0 : W7.cell? ⟨w.heap.size + 3, 0, none⟩ = some (.map (some (w.heap.size + 1))) := hQ7.t.cell 0
                    have s0 : W7.cell? ⟨wr.heap.size, 1, none⟩ = some (.int .i64 q) := hS7.cell 1
                    have t0' : (W7.alloc (.cells #[.int .i64 0, .int .i64 0] 50)).cell? ⟨w.heap.size + 3, 0, none⟩ = some (.map (some (w.heap.size + 1))) := (hQ7.t.alloc _).cell 0
                    have s0' : (W7.alloc (.cells #[.int .i64 0, .int .i64 0] 50)).cell? ⟨wr.heap.size, 1, none⟩ = some (.int .i64 q) := (hS7.alloc _).cell 1
                    have hsz : w.heap.size + 4 ≤ W7.heap.size := hQ7.size
                    have hs4 : wr.heap.size < W7.heap.size := hS7.lt
                    dsimp only at hl1 hl2
                    clear hQ7 hS7 hY7 hk2 hoy hlk y0 y1 z0 z1 hS0 hlow hz6
                    go_cut [11, 12] (fun s9 s10 wx => s9 = .pointer (some ⟨W7.heap.size, 0, none⟩) ∧ s10 = .bool k2 ∧ wx = (W7.alloc (.cells #[.int .i64 oa, .int .i64 ob] 50)).drew)
                    case first =>
                      go_region
                      all_goals
                        go_wp2_with fail
                        go_meet
                        case rel => exact ⟨rfl, rfl, rfl⟩
                    case rest =>
                      obtain ⟨rfl, rfl, rfl⟩ := hcut
                      have hQ9 := (HQ7.out.step (bw_new (Below.refl _ _) (.cells #[.int .i64 oa, .int .i64 ob] 50))).step (bw_drew (Below.refl _ _))
                      have hS9 : Blk (W7.alloc (.cells #[.int .i64 oa, .int .i64 ob] 50)).drew wr.heap.size 27 [.int .i64 p, .int .i64 q] := HS7.out.alloc _
                      have hY9 : Blk (W7.alloc (.cells #[.int .i64 oa, .int .i64 ob] 50)).drew w3.heap.size 50 [.int .i64 ta, .int .i64 tb] := HY7.out.alloc _
                      have hO9 : Blk (W7.alloc (.cells #[.int .i64 oa, .int .i64 ob] 50)).drew W7.heap.size 50 [.int .i64 oa, .int .i64 ob] := heap_alloc_new W7 _
                      obtain ⟨W9, hW9⟩ : ∃ W9, W9 = (W7.alloc (.cells #[.int .i64 oa, .int .i64 ob] 50)).drew := ⟨_, rfl⟩
                      have hz9 : W9.heap.size = W7.heap.size + 1 := by rw [hW9]; simp
                      rw [← hW9] at hQ9 hS9 hY9 hO9 ⊢
                      clear hW9 hl1 hl2 t0 s0 t0' s0'
                      have HQ9 := Lib.hid hQ9
                      have HS9 := Lib.hid hS9
                      have HY9 := Lib.hid hY9
                      have HO9 := Lib.hid hO9
                      have HZ9 := Lib.hid hz9
                      clear hQ9 hS9 hY9 hO9 hz9 hsz hs4
                      cases hkk : k2 with
                      | true =>
                        rw [hkk] at HK2
                        clear hkk
                        have hso := lkz_wayIn (n := q) (st_small f L k)
                        rw [← HOY.out] at hso
                        unfold WayIn at hso
                        dsimp only at hso
                        obtain ⟨hs1, hs2⟩ := HS.out
                        obtain ⟨ht1, ht2⟩ := HTA.out
                        have HPM := Lib.hid (fun W => plus_any (ta, tb) (oa, ob) (-1) W ⟨by dsimp only; omega, by dsimp only; omega⟩ ⟨by dsimp only; omega, by dsimp only; omega⟩ ⟨by dsimp only; omega, by dsimp only; omega⟩ ⟨by dsimp only; omega, by dsimp only; omega⟩ (.inr rfl))
                        obtain ⟨da, hda⟩ : ∃ da, da = ta + -1 * oa := ⟨_, rfl⟩
                        obtain ⟨db, hdb⟩ : ∃ db, db = tb + -1 * ob := ⟨_, rfl⟩
                        unfold wv at HPM
                        dsimp only at HPM
                        rw [← hda, ← hdb] at HPM
                        have HDA := Lib.hid (And.intro hda hdb)
                        obtain ⟨i0, hi, hz0, hz1, hz2⟩ := info_parts infoIntT
                        obtain ⟨i1, hi', hz0', hz1', hz2'⟩ := info_parts infoWayT
                        have HA1 := Lib.hid hi
                        have HA2 := Lib.hid hz0
                        have HA3 := Lib.hid hz1
                        have HA4 := Lib.hid hz2
                        have HB1 := Lib.hid hi'
                        have HB2 := Lib.hid hz0'
                        have HB3 := Lib.hid hz1'
                        have HB4 := Lib.hid hz2'
                        have hln := st_len f L k
                        have hgn : gn ≤ 200 := by rw [HQ9.out.al]; omega
                        have hdn : dn ≤ 200 := by rw [HQ9.out.dl]; omega
                        have HGN := Lib.hid hgn
                        have HDN := Lib.hid hdn
                        have hq1 := HQ.out.size
                        have hq2 := HQ7.out.size
                        have HZB := Lib.hid (show w.heap.size + 4 ≤ W9.heap.size from HQ9.out.size)
                        have HLOW := Lib.hid (show w.heap.size + 4 ≤ w3.heap.size ∧ w.heap.size + 4 ≤ W7.heap.size from ⟨by omega, hq2⟩)
                        have HOFF := Lib.hid (show ROff GA gn gc DA dn dc wr.heap.size ∧ wr.heap.size ≤ w3.heap.size ∧ wr.heap.size ≤ W7.heap.size from ⟨HQ.out.off, by omega, by have := HY7.out.lt; omega⟩)
                        clear hso hs1 hs2 ht1 ht2 hda hdb hi hz0 hz1 hz2 hi' hz0' hz1' hz2' hln hgn hdn hq1 hq2
                        go_upto_region 20 with fail
--AG
                        refine wp_regionJ 24 #[false, false, false, false, false, false, false, false, false, false, false, false, false, false, false, false, false, false, false, false, false, false, false, false] (fun l a W => ∃ (m0 m1 m2 m3 m4 m5 m6 m7 m8 m9 m10 m11 m12 m13 m14 m15 m16 m17 m18 m19 m20 m21 m22 m23 : Bool) (h1 : Nat) (h2 : Nat) (A' : Option Addr) (c' : Nat) (D' : Option Addr) (e' : Nat), l = #[m0, m1, m2, m3, m4, m5, m6, m7, m8, m9, m10, m11, m12, m13, m14, m15, m16, m17, m18, m19, m20, m21, m22, m23] ∧ a = ({ tmps := #[Value.agg #[Value.int IntKind.i64 f, Value.slice (some { block := bs, off := off }) n cap], Value.pointer (some { block := w.heap.size, off := 0 }), u2, u3, Value.pointer (some { block := w.heap.size + 3, off := 0 }), Value.int IntKind.i64 (k : Int), Value.pointer (some { block := wr.heap.size, off := 0 }), Value.pointer (some { block := w3.heap.size, off := 0 }), Value.bool true, Value.pointer (some { block := W4.heap.size, off := 0 }), Value.bool true, Value.pointer (some { block := W7.heap.size, off := 0 }), Value.bool true, Value.bool false, Value.pointer (some { block := w.heap.size, off := 0 }), Value.int IntKind.i64 f, Value.bool true, Value.bool false, Value.bool (decide (200 < (n : Int))), Value.pointer (some { block := w.heap.size, off := 1 }), Value.slice (some { block := bs, off := off }) n cap, Value.int IntKind.i64 (n : Int), Value.bool (decide (200 < (n : Int))), Value.map (some (w.heap.size + 1)), Value.pointer (some { block := w.heap.size, off := 0 }), Value.int IntKind.i64 f, Value.agg #[Value.int IntKind.i64 0, Value.int IntKind.i64 0], Value.map (some (w.heap.size + 1)), Value.map (some (w.heap.size + 2)), Value.pointer (some { block := w.heap.size, off := 0 }), Value.int IntKind.i64 f, Value.map (some (w.heap.size + 2)), Value.agg #[Value.map (some (w.heap.size + 1)), Value.map (some (w.heap.size + 2)), Value.slice none 0 0, Value.slice none 0 0], Value.pointer (some { block := w.heap.size + 3, off := 0 }), Value.pointer (some { block := w.heap.size, off := 1 }), Value.slice (some { block := bs, off := off }) n cap, Value.int IntKind.i64 (n : Int), Value.int IntKind.i64 (k : Int), u38, u39, u40, u41, u42, u43, u44, u45, u46, u47, u48, u49, u50, u51, u52, u53, u54, u55, u56, u57, u58, u59, u60, u61, u62, u63, u64, u65, u66, Value.bool false, u68, u69, Value.bool false, u71, u72, u73, u74, u75, u76, u77, u78, u79, u80, u81, u82, u83, u84, u85, Value.bool true, cw m0 (Value.pointer (some { block := w.heap.size + 3, off := 0 })) (u87), cw m1 (Value.pointer (some { block := w.heap.size + 3, off := 0 })) (u88), cw m2 (Value.pointer (some { block := w.heap.size + 3, off := 0 })) (u89), cw m3 (Value.pointer (some { block := w.heap.size + 3, off := 0 })) (u90), cw m4 (Value.pointer (some { block := w.heap.size + 3, off := 2 })) (u91), cw m5 (.slice GA gn gc) (u92), cw m6 (.int .i64 (k : Int)) (u93), cw m7 (.slice (some ⟨h1, 0, none⟩) 1 1) (u94), cw m8 (.slice A' (gn + 1) c') (u95), cw m9 (Value.pointer (some { block := w.heap.size + 3, off := 0 })) (u96), cw m10 (Value.pointer (some { block := w.heap.size + 3, off := 0 })) (u97), cw m11 (Value.pointer (some { block := w.heap.size + 3, off := 3 })) (u98), cw m12 (.slice DA dn dc) (u99), cw m13 (.agg #[.int .i64 ta, .int .i64 tb]) (u100), cw m14 (.agg #[.int .i64 oa, .int .i64 ob]) (u101), cw m15 (.agg #[.int .i64 da, .int .i64 db]) (u102), cw m16 (.slice (some ⟨h2, 0, none⟩) 1 1) (u103), cw m17 (.slice D' (dn + 1) e') (u104), cw m18 (Value.pointer (some { block := w.heap.size + 3, off := 0 })) (u105), cw m19 (Value.pointer (some { block := w.heap.size + 3, off := 2 })) (u106), cw m21 (Value.pointer (some { block := w.heap.size + 3, off := 0 })) (u107), cw m22 (Value.pointer (some { block := w.heap.size + 3, off := 3 })) (u108), u109, u110, u111, u112, u113, u114, u115, u116, u117, u118, u119, u120, u121, u122, u123, u124, u125, u126, u127, undef], defers := [] } : Act) ∧ ((m8 = true → m7 = true) ∧ (m17 = true → m16 = true) ∧ (m20 = true → m5 = true ∧ m8 = true) ∧ (m23 = true → m12 = true ∧ m17 = true)) ∧ AgPack w f L (some ⟨bs, off, none⟩) n cap w.heap.size k w3.heap.size W7.heap.size W9.heap.size ta tb oa ob da db GA gn gc DA dn dc m7 m8 m16 m17 m20 m23 h1 h2 A' c' D' e' W) (by kernel_rfl) (by kernel_rfl) (by kernel_rfl) (by kernel_rfl) ?_ ?_ ?_ ?_
                        · rintro l a W ⟨m0, m1, m2, m3, m4, m5, m6, m7, m8, m9, m10, m11, m12, m13, m14, m15, m16, m17, m18, m19, m20, m21, m22, m23, h1, h2, A', c', D', e', rfl, _⟩
                          rfl
                        · exact ⟨false, false, false, false, false, false, false, false, false, false, false, false, false, false, false, false, false, false, false, false, false, false, false, false, 0, 0, none, 0, none, 0, rfl, rfl, ⟨fun h => absurd h (by simp), fun h => absurd h (by simp), fun h => absurd h (by simp), fun h => absurd h (by simp)⟩, ⟨HQ9.out.o.drew, HQ9.out.m1.drew, HQ9.out.m2.drew, HQ9.out.t.drew, HY9.out.drew, HO9.out.drew, fun _ => own_below HQ9.out.a (bw_drew (Below.refl _ _)), fun h => absurd h (by simp), fun h => absurd h (by simp), fun _ => own_below HQ9.out.d (bw_drew (Below.refl _ _)), fun h => absurd h (by simp), fun h => absurd h (by simp), HQ9.out.low.drew, Nat.le_refl _, fun h => absurd h (by simp), fun h => absurd h (by simp)⟩⟩
                        · rintro l a W i o ⟨m0, m1, m2, m3, m4, m5, m6, m7, m8, m9, m10, m11, m12, m13, m14, m15, m16, m17, m18, m19, m20, m21, m22, m23, h1, h2, A', c', D', e', rfl, rfl, hi0, hm⟩ ho hun hall K hK
                          have hi : i < 24 := (Array.getElem?_eq_some_iff.1 ho).1
                          have HM := Lib.hid hm
                          have HI := Lib.hid hi0
                          clear hm hi0
                          rcases (show i = 0 ∨ i = 1 ∨ i = 2 ∨ i = 3 ∨ i = 4 ∨ i = 5 ∨ i = 6 ∨ i = 7 ∨ i = 8 ∨ i = 9 ∨ i = 10 ∨ i = 11 ∨ i = 12 ∨ i = 13 ∨ i = 14 ∨ i = 15 ∨ i = 16 ∨ i = 17 ∨ i = 18 ∨ i = 19 ∨ i = 20 ∨ i = 21 ∨ i = 22 ∨ i = 23 by omega) with rfl | rfl | rfl | rfl | rfl | rfl | rfl | rfl | rfl | rfl | rfl | rfl | rfl | rfl | rfl | rfl | rfl | rfl | rfl | rfl | rfl | rfl | rfl | rfl
                          · obtain rfl := Option.some.inj (show some _ = some o from ho)
                            obtain rfl : m0 = false := by simpa using hun
                            clear hall hun hi ho
                            go_simp
                            exact hK.out _ _ ⟨true, m1, m2, m3, m4, m5, m6, m7, m8, m9, m10, m11, m12, m13, m14, m15, m16, m17, m18, m19, m20, m21, m22, m23, h1, h2, A', c', D', e', rfl, rfl, by obtain ⟨h0, h1, h2, h3⟩ := HI.out; exact ⟨fun e => by first | rfl | exact h0 e, fun e => by first | rfl | exact h1 e, fun e => ⟨by first | rfl | exact (h2 e).1, by first | rfl | exact (h2 e).2⟩, fun e => ⟨by first | rfl | exact (h3 e).1, by first | rfl | exact (h3 e).2⟩⟩, HM.out⟩
                          · obtain rfl := Option.some.inj (show some _ = some o from ho)
                            obtain rfl : m1 = false := by simpa using hun
                            clear hall hun hi ho
                            go_simp
                            exact hK.out _ _ ⟨m0, true, m2, m3, m4, m5, m6, m7, m8, m9, m10, m11, m12, m13, m14, m15, m16, m17, m18, m19, m20, m21, m22, m23, h1, h2, A', c', D', e', rfl, rfl, by obtain ⟨h0, h1, h2, h3⟩ := HI.out; exact ⟨fun e => by first | rfl | exact h0 e, fun e => by first | rfl | exact h1 e, fun e => ⟨by first | rfl | exact (h2 e).1, by first | rfl | exact (h2 e).2⟩, fun e => ⟨by first | rfl | exact (h3 e).1, by first | rfl | exact (h3 e).2⟩⟩, HM.out⟩
                          · obtain rfl := Option.some.inj (show some _ = some o from ho)
                            obtain rfl : m2 = false := by simpa using hun
                            clear hall hun hi ho
                            go_simp
                            exact hK.out _ _ ⟨m0, m1, true, m3, m4, m5, m6, m7, m8, m9, m10, m11, m12, m13, m14, m15, m16, m17, m18, m19, m20, m21, m22, m23, h1, h2, A', c', D', e', rfl, rfl, by obtain ⟨h0, h1, h2, h3⟩ := HI.out; exact ⟨fun e => by first | rfl | exact h0 e, fun e => by first | rfl | exact h1 e, fun e => ⟨by first | rfl | exact (h2 e).1, by first | rfl | exact (h2 e).2⟩, fun e => ⟨by first | rfl | exact (h3 e).1, by first | rfl | exact (h3 e).2⟩⟩, HM.out⟩
                          · obtain rfl := Option.some.inj (show some _ = some o from ho)
                            obtain rfl : m2 = true := getBT hall 2 rfl
                            obtain rfl : m3 = false := by simpa using hun
                            clear hall hun hi ho
                            go_simp
                            exact hK.out _ _ ⟨m0, m1, true, true, m4, m5, m6, m7, m8, m9, m10, m11, m12, m13, m14, m15, m16, m17, m18, m19, m20, m21, m22, m23, h1, h2, A', c', D', e', rfl, rfl, by obtain ⟨h0, h1, h2, h3⟩ := HI.out; exact ⟨fun e => by first | rfl | exact h0 e, fun e => by first | rfl | exact h1 e, fun e => ⟨by first | rfl | exact (h2 e).1, by first | rfl | exact (h2 e).2⟩, fun e => ⟨by first | rfl | exact (h3 e).1, by first | rfl | exact (h3 e).2⟩⟩, HM.out⟩
                          · obtain rfl := Option.some.inj (show some _ = some o from ho)
                            obtain rfl : m3 = true := getBT hall 3 rfl
                            obtain rfl : m4 = false := by simpa using hun
                            clear hall hun hi ho
                            go_simp
                            exact hK.out _ _ ⟨m0, m1, m2, true, true, m5, m6, m7, m8, m9, m10, m11, m12, m13, m14, m15, m16, m17, m18, m19, m20, m21, m22, m23, h1, h2, A', c', D', e', rfl, rfl, by obtain ⟨h0, h1, h2, h3⟩ := HI.out; exact ⟨fun e => by first | rfl | exact h0 e, fun e => by first | rfl | exact h1 e, fun e => ⟨by first | rfl | exact (h2 e).1, by first | rfl | exact (h2 e).2⟩, fun e => ⟨by first | rfl | exact (h3 e).1, by first | rfl | exact (h3 e).2⟩⟩, HM.out⟩
                          · obtain rfl := Option.some.inj (show some _ = some o from ho)
                            obtain rfl : m4 = true := getBT hall 4 rfl
                            obtain rfl : m5 = false := by simpa using hun
                            clear hall hun hi ho
                            obtain rfl : m20 = false := by
                              cases m20
                              · rfl
                              · exact absurd ((HI.out.2.2.1 rfl).1) (by simp)
                            have z0 : W.cell? ⟨w.heap.size + 3, 2, none⟩ = some (.slice GA gn gc) := HM.out.t.cell 2
                            go_simp
                            exact hK.out _ _ ⟨m0, m1, m2, m3, true, true, m6, m7, m8, m9, m10, m11, m12, m13, m14, m15, m16, m17, m18, m19, false, m21, m22, m23, h1, h2, A', c', D', e', rfl, rfl, by obtain ⟨h0, h1, h2, h3⟩ := HI.out; exact ⟨fun e => by first | rfl | exact h0 e, fun e => by first | rfl | exact h1 e, fun e => ⟨by first | rfl | exact (h2 e).1, by first | rfl | exact (h2 e).2⟩, fun e => ⟨by first | rfl | exact (h3 e).1, by first | rfl | exact (h3 e).2⟩⟩, HM.out⟩
                          · obtain rfl := Option.some.inj (show some _ = some o from ho)
                            obtain rfl : m6 = false := by simpa using hun
                            clear hall hun hi ho
                            go_simp
                            exact hK.out _ _ ⟨m0, m1, m2, m3, m4, m5, true, m7, m8, m9, m10, m11, m12, m13, m14, m15, m16, m17, m18, m19, m20, m21, m22, m23, h1, h2, A', c', D', e', rfl, rfl, by obtain ⟨h0, h1, h2, h3⟩ := HI.out; exact ⟨fun e => by first | rfl | exact h0 e, fun e => by first | rfl | exact h1 e, fun e => ⟨by first | rfl | exact (h2 e).1, by first | rfl | exact (h2 e).2⟩, fun e => ⟨by first | rfl | exact (h3 e).1, by first | rfl | exact (h3 e).2⟩⟩, HM.out⟩
                          · obtain rfl := Option.some.inj (show some _ = some o from ho)
                            obtain rfl : m6 = true := getBT hall 6 rfl
                            obtain rfl : m7 = false := by simpa using hun
                            clear hall hun hi ho
                            obtain rfl : m8 = false := by
                              cases m8
                              · rfl
                              · exact absurd (HI.out.1 rfl) (by simp)
                            have HN := Lib.hid HM.out.new1
                            go_simp
                            exact hK.out _ _ ⟨m0, m1, m2, m3, m4, m5, true, true, false, m9, m10, m11, m12, m13, m14, m15, m16, m17, m18, m19, m20, m21, m22, m23, W.heap.size, h2, A', c', D', e', rfl, rfl, by obtain ⟨h0, h1, h2, h3⟩ := HI.out; exact ⟨fun e => by first | rfl | exact h0 e, fun e => by first | rfl | exact h1 e, fun e => ⟨by first | rfl | exact (h2 e).1, by first | rfl | exact (h2 e).2⟩, fun e => ⟨by first | rfl | exact (h3 e).1, by first | rfl | exact (h3 e).2⟩⟩, HN.out⟩
                          · obtain rfl := Option.some.inj (show some _ = some o from ho)
                            obtain rfl : m5 = true := getBT hall 5 rfl
                            obtain rfl : m7 = true := getBT hall 7 rfl
                            obtain rfl : m8 = false := by simpa using hun
                            clear hall hun hi ho
                            obtain rfl : m20 = false := by
                              cases m20
                              · rfl
                              · exact absurd ((HI.out.2.2.1 rfl).2) (by simp)
                            have HO := Lib.hid (HM.out.a0 rfl)
                            have HG := Lib.hid (HM.out.gp1 rfl rfl)
                            have hsz := Nat.le_trans HZB.out HM.out.size
                            refine step_append_lies _ (by rfl) _ _ _ (by rfl) (w.heap.size + 4) 3 i0 (.int .i64 0) 1 8 Tryd.underlying46 HA1.out HA2.out HA3.out HA4.out rfl (by decide) (.slice GA gn gc) gn _ (by rfl) HO.out
                              ⟨h1, 0, none⟩ 1 1 [.int .i64 (k : Int)] (by rfl) (by rfl) (World.news_of_block (cs := #[.int .i64 (k : Int)]) (t := 3) (fr := (0, 0)) HG.out) (by simp [Value.oneCell']) (by decide) (by unfold maxLen; have := HGN.out; omega) (by have := HGN.out; omega) hsz W.heap.size rfl ?_
                            intro g c2 W10 hown hgrow hat hlt
                            exact hK.out _ _ ⟨m0, m1, m2, m3, m4, true, m6, true, true, m9, m10, m11, m12, m13, m14, m15, m16, m17, m18, m19, false, m21, m22, m23, h1, h2, some ⟨g, 0, none⟩, c2, D', e', rfl, rfl, by obtain ⟨h0, h1, h2, h3⟩ := HI.out; exact ⟨fun e => by first | rfl | exact h0 e, fun e => by first | rfl | exact h1 e, fun e => ⟨by first | rfl | exact (h2 e).1, by first | rfl | exact (h2 e).2⟩, fun e => ⟨by first | rfl | exact (h3 e).1, by first | rfl | exact (h3 e).2⟩⟩, HM.out.app1 HZB.out (Nat.le_refl _) hown hgrow⟩
                          · obtain rfl := Option.some.inj (show some _ = some o from ho)
                            obtain rfl : m9 = false := by simpa using hun
                            clear hall hun hi ho
                            go_simp
                            exact hK.out _ _ ⟨m0, m1, m2, m3, m4, m5, m6, m7, m8, true, m10, m11, m12, m13, m14, m15, m16, m17, m18, m19, m20, m21, m22, m23, h1, h2, A', c', D', e', rfl, rfl, by obtain ⟨h0, h1, h2, h3⟩ := HI.out; exact ⟨fun e => by first | rfl | exact h0 e, fun e => by first | rfl | exact h1 e, fun e => ⟨by first | rfl | exact (h2 e).1, by first | rfl | exact (h2 e).2⟩, fun e => ⟨by first | rfl | exact (h3 e).1, by first | rfl | exact (h3 e).2⟩⟩, HM.out⟩
                          · obtain rfl := Option.some.inj (show some _ = some o from ho)
                            obtain rfl : m9 = true := getBT hall 9 rfl
                            obtain rfl : m10 = false := by simpa using hun
                            clear hall hun hi ho
                            go_simp
                            exact hK.out _ _ ⟨m0, m1, m2, m3, m4, m5, m6, m7, m8, true, true, m11, m12, m13, m14, m15, m16, m17, m18, m19, m20, m21, m22, m23, h1, h2, A', c', D', e', rfl, rfl, by obtain ⟨h0, h1, h2, h3⟩ := HI.out; exact ⟨fun e => by first | rfl | exact h0 e, fun e => by first | rfl | exact h1 e, fun e => ⟨by first | rfl | exact (h2 e).1, by first | rfl | exact (h2 e).2⟩, fun e => ⟨by first | rfl | exact (h3 e).1, by first | rfl | exact (h3 e).2⟩⟩, HM.out⟩
                          · obtain rfl := Option.some.inj (show some _ = some o from ho)
                            obtain rfl : m10 = true := getBT hall 10 rfl
                            obtain rfl : m11 = false := by simpa using hun
                            clear hall hun hi ho
                            go_simp
                            exact hK.out _ _ ⟨m0, m1, m2, m3, m4, m5, m6, m7, m8, m9, true, true, m12, m13, m14, m15, m16, m17, m18, m19, m20, m21, m22, m23, h1, h2, A', c', D', e', rfl, rfl, by obtain ⟨h0, h1, h2, h3⟩ := HI.out; exact ⟨fun e => by first | rfl | exact h0 e, fun e => by first | rfl | exact h1 e, fun e => ⟨by first | rfl | exact (h2 e).1, by first | rfl | exact (h2 e).2⟩, fun e => ⟨by first | rfl | exact (h3 e).1, by first | rfl | exact (h3 e).2⟩⟩, HM.out⟩
                          · obtain rfl := Option.some.inj (show some _ = some o from ho)
                            obtain rfl : m11 = true := getBT hall 11 rfl
                            obtain rfl : m12 = false := by simpa using hun
                            clear hall hun hi ho
                            obtain rfl : m23 = false := by
                              cases m23
                              · rfl
                              · exact absurd ((HI.out.2.2.2 rfl).1) (by simp)
                            have z0 : W.cell? ⟨w.heap.size + 3, 3, none⟩ = some (.slice DA dn dc) := HM.out.t.cell 3
                            go_simp
                            exact hK.out _ _ ⟨m0, m1, m2, m3, m4, m5, m6, m7, m8, m9, m10, true, true, m13, m14, m15, m16, m17, m18, m19, m20, m21, m22, false, h1, h2, A', c', D', e', rfl, rfl, by obtain ⟨h0, h1, h2, h3⟩ := HI.out; exact ⟨fun e => by first | rfl | exact h0 e, fun e => by first | rfl | exact h1 e, fun e => ⟨by first | rfl | exact (h2 e).1, by first | rfl | exact (h2 e).2⟩, fun e => ⟨by first | rfl | exact (h3 e).1, by first | rfl | exact (h3 e).2⟩⟩, HM.out⟩
                          · obtain rfl := Option.some.inj (show some _ = some o from ho)
                            obtain rfl : m13 = false := by simpa using hun
                            clear hall hun hi ho
                            have z0 : W.cell? ⟨w3.heap.size, 0, none⟩ = some (.int .i64 ta) := HM.out.y.cell 0
                            have z1 : W.cell? ⟨w3.heap.size, 1, none⟩ = some (.int .i64 tb) := HM.out.y.cell 1
                            go_simp
                            exact hK.out _ _ ⟨m0, m1, m2, m3, m4, m5, m6, m7, m8, m9, m10, m11, m12, true, m14, m15, m16, m17, m18, m19, m20, m21, m22, m23, h1, h2, A', c', D', e', rfl, rfl, by obtain ⟨h0, h1, h2, h3⟩ := HI.out; exact ⟨fun e => by first | rfl | exact h0 e, fun e => by first | rfl | exact h1 e, fun e => ⟨by first | rfl | exact (h2 e).1, by first | rfl | exact (h2 e).2⟩, fun e => ⟨by first | rfl | exact (h3 e).1, by first | rfl | exact (h3 e).2⟩⟩, HM.out⟩
                          · obtain rfl := Option.some.inj (show some _ = some o from ho)
                            obtain rfl : m14 = false := by simpa using hun
                            clear hall hun hi ho
                            have z0 : W.cell? ⟨W7.heap.size, 0, none⟩ = some (.int .i64 oa) := HM.out.z.cell 0
                            have z1 : W.cell? ⟨W7.heap.size, 1, none⟩ = some (.int .i64 ob) := HM.out.z.cell 1
                            go_simp
                            exact hK.out _ _ ⟨m0, m1, m2, m3, m4, m5, m6, m7, m8, m9, m10, m11, m12, m13, true, m15, m16, m17, m18, m19, m20, m21, m22, m23, h1, h2, A', c', D', e', rfl, rfl, by obtain ⟨h0, h1, h2, h3⟩ := HI.out; exact ⟨fun e => by first | rfl | exact h0 e, fun e => by first | rfl | exact h1 e, fun e => ⟨by first | rfl | exact (h2 e).1, by first | rfl | exact (h2 e).2⟩, fun e => ⟨by first | rfl | exact (h3 e).1, by first | rfl | exact (h3 e).2⟩⟩, HM.out⟩
                          · obtain rfl := Option.some.inj (show some _ = some o from ho)
                            obtain rfl : m13 = true := getBT hall 13 rfl
                            obtain rfl : m14 = true := getBT hall 14 rfl
                            obtain rfl : m15 = false := by simpa using hun
                            clear hall hun hi ho
                            go_simp
                            refine (HPM.out _).mono ?_
                            rintro e W' ⟨rfl, hb⟩
                            exact hK.out _ _ ⟨m0, m1, m2, m3, m4, m5, m6, m7, m8, m9, m10, m11, m12, true, true, true, m16, m17, m18, m19, m20, m21, m22, m23, h1, h2, A', c', D', e', rfl, rfl, by obtain ⟨h0, h1, h2, h3⟩ := HI.out; exact ⟨fun e => by first | rfl | exact h0 e, fun e => by first | rfl | exact h1 e, fun e => ⟨by first | rfl | exact (h2 e).1, by first | rfl | exact (h2 e).2⟩, fun e => ⟨by first | rfl | exact (h3 e).1, by first | rfl | exact (h3 e).2⟩⟩, HM.out.step hb⟩
                          · obtain rfl := Option.some.inj (show some _ = some o from ho)
                            obtain rfl : m15 = true := getBT hall 15 rfl
                            obtain rfl : m16 = false := by simpa using hun
                            clear hall hun hi ho
                            obtain rfl : m17 = false := by
                              cases m17
                              · rfl
                              · exact absurd (HI.out.2.1 rfl) (by simp)
                            have HN := Lib.hid HM.out.new2
                            go_simp
                            exact hK.out _ _ ⟨m0, m1, m2, m3, m4, m5, m6, m7, m8, m9, m10, m11, m12, m13, m14, true, true, false, m18, m19, m20, m21, m22, m23, h1, W.heap.size, A', c', D', e', rfl, rfl, by obtain ⟨h0, h1, h2, h3⟩ := HI.out; exact ⟨fun e => by first | rfl | exact h0 e, fun e => by first | rfl | exact h1 e, fun e => ⟨by first | rfl | exact (h2 e).1, by first | rfl | exact (h2 e).2⟩, fun e => ⟨by first | rfl | exact (h3 e).1, by first | rfl | exact (h3 e).2⟩⟩, HN.out⟩
                          · obtain rfl := Option.some.inj (show some _ = some o from ho)
                            obtain rfl : m12 = true := getBT hall 12 rfl
                            obtain rfl : m16 = true := getBT hall 16 rfl
                            obtain rfl : m17 = false := by simpa using hun
                            clear hall hun hi ho
                            obtain rfl : m23 = false := by
                              cases m23
                              · rfl
                              · exact absurd ((HI.out.2.2.2 rfl).2) (by simp)
                            have HO := Lib.hid (HM.out.d0 rfl)
                            have HG := Lib.hid (HM.out.gp2 rfl rfl)
                            have hsz := Nat.le_trans HZB.out HM.out.size
                            refine step_append_lies _ (by rfl) _ _ _ (by rfl) (w.heap.size + 4) 50 i1 (.agg #[.int .i64 0, .int .i64 0]) 2 16 Tryd.underlying69 HB1.out HB2.out HB3.out HB4.out rfl (by decide) (.slice DA dn dc) dn _ (by rfl) HO.out
                              ⟨h2, 0, none⟩ 1 1 [.int .i64 da, .int .i64 db] (by rfl) (by rfl) (World.news_of_block (cs := #[.int .i64 da, .int .i64 db]) (t := 50) (fr := (0, 0)) HG.out) (by simp [Value.oneCell']) (by decide) (by unfold maxLen; have := HDN.out; omega) (by have := HDN.out; omega) hsz W.heap.size rfl ?_
                            intro g c2 W10 hown hgrow hat hlt
                            exact hK.out _ _ ⟨m0, m1, m2, m3, m4, m5, m6, m7, m8, m9, m10, m11, true, m13, m14, m15, true, true, m18, m19, m20, m21, m22, false, h1, h2, A', c', some ⟨g, 0, none⟩, c2, rfl, rfl, by obtain ⟨h0, h1, h2, h3⟩ := HI.out; exact ⟨fun e => by first | rfl | exact h0 e, fun e => by first | rfl | exact h1 e, fun e => ⟨by first | rfl | exact (h2 e).1, by first | rfl | exact (h2 e).2⟩, fun e => ⟨by first | rfl | exact (h3 e).1, by first | rfl | exact (h3 e).2⟩⟩, HM.out.app2 HZB.out (Nat.le_refl _) HOFF.out.1 HOFF.out.2.1 HOFF.out.2.2 hown hgrow⟩
                          · obtain rfl := Option.some.inj (show some _ = some o from ho)
                            obtain rfl : m0 = true := getBT hall 0 rfl
                            obtain rfl : m18 = false := by simpa using hun
                            clear hall hun hi ho
                            go_simp
                            exact hK.out _ _ ⟨true, m1, m2, m3, m4, m5, m6, m7, m8, m9, m10, m11, m12, m13, m14, m15, m16, m17, true, m19, m20, m21, m22, m23, h1, h2, A', c', D', e', rfl, rfl, by obtain ⟨h0, h1, h2, h3⟩ := HI.out; exact ⟨fun e => by first | rfl | exact h0 e, fun e => by first | rfl | exact h1 e, fun e => ⟨by first | rfl | exact (h2 e).1, by first | rfl | exact (h2 e).2⟩, fun e => ⟨by first | rfl | exact (h3 e).1, by first | rfl | exact (h3 e).2⟩⟩, HM.out⟩
                          · obtain rfl := Option.some.inj (show some _ = some o from ho)
                            obtain rfl : m18 = true := getBT hall 18 rfl
                            obtain rfl : m19 = false := by simpa using hun
                            clear hall hun hi ho
                            go_simp
                            exact hK.out _ _ ⟨m0, m1, m2, m3, m4, m5, m6, m7, m8, m9, m10, m11, m12, m13, m14, m15, m16, m17, true, true, m20, m21, m22, m23, h1, h2, A', c', D', e', rfl, rfl, by obtain ⟨h0, h1, h2, h3⟩ := HI.out; exact ⟨fun e => by first | rfl | exact h0 e, fun e => by first | rfl | exact h1 e, fun e => ⟨by first | rfl | exact (h2 e).1, by first | rfl | exact (h2 e).2⟩, fun e => ⟨by first | rfl | exact (h3 e).1, by first | rfl | exact (h3 e).2⟩⟩, HM.out⟩
                          · obtain rfl := Option.some.inj (show some _ = some o from ho)
                            obtain rfl : m5 = true := getBT hall 5 rfl
                            obtain rfl : m8 = true := getBT hall 8 rfl
                            obtain rfl : m19 = true := getBT hall 19 rfl
                            obtain rfl : m20 = false := by simpa using hun
                            clear hall hun hi ho
                            have z0 : W.cell? ⟨w.heap.size + 3, 2, none⟩ = some (.slice GA gn gc) := HM.out.t.cell 2
                            have f0 := HM.out.t.frozen 2
                            have HN := Lib.hid (HM.out.put (j := 2) (v := .slice A' (gn + 1) c') (v20 := true) (v23 := m23) (Nat.le_refl _) HZB.out HLOW.out.1 HLOW.out.2 (by simp))
                            go_simp
                            exact hK.out _ _ ⟨m0, m1, m2, m3, m4, true, m6, m7, true, m9, m10, m11, m12, m13, m14, m15, m16, m17, m18, true, true, m21, m22, m23, h1, h2, A', c', D', e', rfl, rfl, by obtain ⟨h0, h1, h2, h3⟩ := HI.out; exact ⟨fun e => by first | rfl | exact h0 e, fun e => by first | rfl | exact h1 e, fun e => ⟨by first | rfl | exact (h2 e).1, by first | rfl | exact (h2 e).2⟩, fun e => ⟨by first | rfl | exact (h3 e).1, by first | rfl | exact (h3 e).2⟩⟩, HN.out⟩
                          · obtain rfl := Option.some.inj (show some _ = some o from ho)
                            obtain rfl : m1 = true := getBT hall 1 rfl
                            obtain rfl : m21 = false := by simpa using hun
                            clear hall hun hi ho
                            go_simp
                            exact hK.out _ _ ⟨m0, true, m2, m3, m4, m5, m6, m7, m8, m9, m10, m11, m12, m13, m14, m15, m16, m17, m18, m19, m20, true, m22, m23, h1, h2, A', c', D', e', rfl, rfl, by obtain ⟨h0, h1, h2, h3⟩ := HI.out; exact ⟨fun e => by first | rfl | exact h0 e, fun e => by first | rfl | exact h1 e, fun e => ⟨by first | rfl | exact (h2 e).1, by first | rfl | exact (h2 e).2⟩, fun e => ⟨by first | rfl | exact (h3 e).1, by first | rfl | exact (h3 e).2⟩⟩, HM.out⟩
                          · obtain rfl := Option.some.inj (show some _ = some o from ho)
                            obtain rfl : m21 = true := getBT hall 21 rfl
                            obtain rfl : m22 = false := by simpa using hun
                            clear hall hun hi ho
                            go_simp
                            exact hK.out _ _ ⟨m0, m1, m2, m3, m4, m5, m6, m7, m8, m9, m10, m11, m12, m13, m14, m15, m16, m17, m18, m19, m20, true, true, m23, h1, h2, A', c', D', e', rfl, rfl, by obtain ⟨h0, h1, h2, h3⟩ := HI.out; exact ⟨fun e => by first | rfl | exact h0 e, fun e => by first | rfl | exact h1 e, fun e => ⟨by first | rfl | exact (h2 e).1, by first | rfl | exact (h2 e).2⟩, fun e => ⟨by first | rfl | exact (h3 e).1, by first | rfl | exact (h3 e).2⟩⟩, HM.out⟩
                          · obtain rfl := Option.some.inj (show some _ = some o from ho)
                            obtain rfl : m12 = true := getBT hall 12 rfl
                            obtain rfl : m17 = true := getBT hall 17 rfl
                            obtain rfl : m22 = true := getBT hall 22 rfl
                            obtain rfl : m23 = false := by simpa using hun
                            clear hall hun hi ho
                            have z0 : W.cell? ⟨w.heap.size + 3, 3, none⟩ = some (.slice DA dn dc) := HM.out.t.cell 3
                            have f0 := HM.out.t.frozen 3
                            have HN := Lib.hid (HM.out.put (j := 3) (v := .slice D' (dn + 1) e') (v20 := m20) (v23 := true) (Nat.le_refl _) HZB.out HLOW.out.1 HLOW.out.2 (by simp))
                            go_simp
                            exact hK.out _ _ ⟨m0, m1, m2, m3, m4, m5, m6, m7, m8, m9, m10, m11, true, m13, m14, m15, m16, true, m18, m19, m20, m21, true, true, h1, h2, A', c', D', e', rfl, rfl, by obtain ⟨h0, h1, h2, h3⟩ := HI.out; exact ⟨fun e => by first | rfl | exact h0 e, fun e => by first | rfl | exact h1 e, fun e => ⟨by first | rfl | exact (h2 e).1, by first | rfl | exact (h2 e).2⟩, fun e => ⟨by first | rfl | exact (h3 e).1, by first | rfl | exact (h3 e).2⟩⟩, HN.out⟩
                        · rintro l a W ⟨m0, m1, m2, m3, m4, m5, m6, m7, m8, m9, m10, m11, m12, m13, m14, m15, m16, m17, m18, m19, m20, m21, m22, m23, h1, h2, A', c', D', e', rfl, rfl, _, hm⟩ hall
                          obtain rfl : m0 = true := hall 0 (by decide)
                          obtain rfl : m1 = true := hall 1 (by decide)
                          obtain rfl : m2 = true := hall 2 (by decide)
                          obtain rfl : m3 = true := hall 3 (by decide)
                          obtain rfl : m4 = true := hall 4 (by decide)
                          obtain rfl : m5 = true := hall 5 (by decide)
                          obtain rfl : m6 = true := hall 6 (by decide)
                          obtain rfl : m7 = true := hall 7 (by decide)
                          obtain rfl : m8 = true := hall 8 (by decide)
                          obtain rfl : m9 = true := hall 9 (by decide)
                          obtain rfl : m10 = true := hall 10 (by decide)
                          obtain rfl : m11 = true := hall 11 (by decide)
                          obtain rfl : m12 = true := hall 12 (by decide)
                          obtain rfl : m13 = true := hall 13 (by decide)
                          obtain rfl : m14 = true := hall 14 (by decide)
                          obtain rfl : m15 = true := hall 15 (by decide)
                          obtain rfl : m16 = true := hall 16 (by decide)
                          obtain rfl : m17 = true := hall 17 (by decide)
                          obtain rfl : m18 = true := hall 18 (by decide)
                          obtain rfl : m19 = true := hall 19 (by decide)
                          obtain rfl : m20 = true := hall 20 (by decide)
                          obtain rfl : m21 = true := hall 21 (by decide)
                          obtain rfl : m22 = true := hall 22 (by decide)
                          obtain rfl : m23 = true := hall 23 (by decide)
                          clear hall
                          have HM := Lib.hid hm
                          clear hm
                          dsimp only [cw, cond_true]
                          go_wp2_with fail
                          go_roundw
                          case rel => exact ⟨k + 1, _, _, _, _, _, _, by omega, by go_num, fun j hj => by
                                                        by_cases e : j = k
                                                        · rw [e]; exact HE.out
                                                        · exact HOK.out j (by omega), HM.out.done (Nat.le_refl _) HZB.out HX.out (lkz_old HK2.out HOY.out) HTO.out HDA.out.1 HDA.out.2 HQ9.out.al HQ9.out.dl⟩
                          case measure => simp [intOf]; omega
                        --GA
                      | false =>
                        rw [hkk] at HK2
                        clear hkk
                        have hq1 := HQ.out.size
                        have hno : lkz q (stT f L k).ways = none := by have := HK2.out; simpa using this.symm
                        have HLOW := Lib.hid (show w.heap.size + 4 ≤ w3.heap.size ∧ w.heap.size + 4 ≤ wr.heap.size from ⟨by omega, hq1⟩)
                        have HNO1 := Lib.hid (show mget (ents wv (stT f L k).ways) q = none by rw [ents_get, hno]; rfl)
                        have HNO2 := Lib.hid (show mget (ents i64v (stT f L k).fst) q = none by
                          have h1 := st_fst f L k (by have := HL.out; omega) q
                          rw [ents_get, h1.1, if_pos (h1.2.1 hno)]; rfl)
                        have HNO := Lib.hid hno
                        clear hq1 hno
                        go_upto_region 21 with fail
--NW
                        refine wp_regionJ 20 #[false, false, false, false, false, false, false, false, false, false, false, false, false, false, false, false, false, false, false, false] (fun l a W => ∃ (m0 m1 m2 m3 m4 m5 m6 m7 m8 m9 m10 m11 m12 m13 m14 m15 m16 m17 m18 m19 : Bool) (s1 : Nat) (s2 : Nat), l = #[m0, m1, m2, m3, m4, m5, m6, m7, m8, m9, m10, m11, m12, m13, m14, m15, m16, m17, m18, m19] ∧ a = ({ tmps := #[Value.agg #[Value.int IntKind.i64 f, Value.slice (some { block := bs, off := off }) n cap], Value.pointer (some { block := w.heap.size, off := 0 }), u2, u3, Value.pointer (some { block := w.heap.size + 3, off := 0 }), Value.int IntKind.i64 (k : Int), Value.pointer (some { block := wr.heap.size, off := 0 }), Value.pointer (some { block := w3.heap.size, off := 0 }), Value.bool true, Value.pointer (some { block := W4.heap.size, off := 0 }), Value.bool true, Value.pointer (some { block := W7.heap.size, off := 0 }), Value.bool false, Value.bool false, Value.pointer (some { block := w.heap.size, off := 0 }), Value.int IntKind.i64 f, Value.bool true, Value.bool false, Value.bool (decide (200 < (n : Int))), Value.pointer (some { block := w.heap.size, off := 1 }), Value.slice (some { block := bs, off := off }) n cap, Value.int IntKind.i64 (n : Int), Value.bool (decide (200 < (n : Int))), Value.map (some (w.heap.size + 1)), Value.pointer (some { block := w.heap.size, off := 0 }), Value.int IntKind.i64 f, Value.agg #[Value.int IntKind.i64 0, Value.int IntKind.i64 0], Value.map (some (w.heap.size + 1)), Value.map (some (w.heap.size + 2)), Value.pointer (some { block := w.heap.size, off := 0 }), Value.int IntKind.i64 f, Value.map (some (w.heap.size + 2)), Value.agg #[Value.map (some (w.heap.size + 1)), Value.map (some (w.heap.size + 2)), Value.slice none 0 0, Value.slice none 0 0], Value.pointer (some { block := w.heap.size + 3, off := 0 }), Value.pointer (some { block := w.heap.size, off := 1 }), Value.slice (some { block := bs, off := off }) n cap, Value.int IntKind.i64 (n : Int), Value.int IntKind.i64 (k : Int), u38, u39, u40, u41, u42, u43, u44, u45, u46, u47, u48, u49, u50, u51, u52, u53, u54, u55, u56, u57, u58, u59, u60, u61, u62, u63, u64, u65, u66, Value.bool false, u68, u69, Value.bool false, u71, u72, u73, u74, u75, u76, u77, u78, u79, u80, u81, u82, u83, u84, u85, Value.bool false, u87, u88, u89, u90, u91, u92, u93, u94, u95, u96, u97, u98, u99, u100, u101, u102, u103, u104, u105, u106, u107, u108, cw m0 (Value.pointer (some { block := w.heap.size + 3, off := 0 })) (u109), cw m1 (Value.pointer (some { block := w.heap.size + 3, off := 0 })) (u110), cw m2 (Value.pointer (some { block := w.heap.size + 3, off := 0 })) (u111), cw m3 (.map (some (w.heap.size + 1))) (u112), cw m4 (Value.pointer (some { block := wr.heap.size, off := 1 })) (u113), cw m5 (.int .i64 q) (u114), cw m6 (Value.pointer (some { block := w.heap.size + 3, off := 0 })) (u115), cw m7 (Value.pointer (some { block := w.heap.size + 3, off := 0 })) (u116), cw m8 (Value.pointer (some { block := w.heap.size + 3, off := 1 })) (u117), cw m9 (.map (some (w.heap.size + 2))) (u118), cw m10 (Value.pointer (some { block := wr.heap.size, off := 1 })) (u119), cw m11 (.int .i64 q) (u120), cw m12 (.agg #[.int .i64 ta, .int .i64 tb]) (u121), cw m13 (.int .i64 (k : Int)) (u122), cw m14 (.tuple #[.agg #[.int .i64 0, .int .i64 0], .int .i64 (s1 : Int)]) (u123), cw m15 (.int .i64 (s1 : Int)) (u124), cw m17 (.tuple #[.int .i64 0, .int .i64 (s2 : Int)]) (u125), cw m18 (.int .i64 (s2 : Int)) (u126), u127, undef], defers := [] } : Act) ∧ ((m16 = true → m14 = true) ∧ (m19 = true → m17 = true) ∧ (m15 = true → m14 = true) ∧ (m18 = true → m17 = true)) ∧ NwPack w f L (some ⟨bs, off, none⟩) n cap w.heap.size k wr.heap.size w3.heap.size p q ta tb GA gn gc DA dn dc m14 m16 m17 m19 s1 s2 W) (by kernel_rfl) (by kernel_rfl) (by kernel_rfl) (by kernel_rfl) ?_ ?_ ?_ ?_
                        · rintro l a W ⟨m0, m1, m2, m3, m4, m5, m6, m7, m8, m9, m10, m11, m12, m13, m14, m15, m16, m17, m18, m19, s1, s2, rfl, _⟩
                          rfl
                        · exact ⟨false, false, false, false, false, false, false, false, false, false, false, false, false, false, false, false, false, false, false, false, 0, 0, rfl, rfl, ⟨fun h => absurd h (by simp), fun h => absurd h (by simp), fun h => absurd h (by simp), fun h => absurd h (by simp)⟩, ⟨HQ9.out.o.drew, fun _ => HQ9.out.m1.drew, fun h => absurd h (by simp), fun h => absurd h (by simp), fun _ => HQ9.out.m2.drew, fun h => absurd h (by simp), fun h => absurd h (by simp), HQ9.out.t.drew, HS9.out.drew, HY9.out.drew, own_below HQ9.out.a (bw_drew (Below.refl _ _)), own_below HQ9.out.d (bw_drew (Below.refl _ _)), HQ9.out.low.drew, HQ9.out.size⟩⟩
                        · rintro l a W i o ⟨m0, m1, m2, m3, m4, m5, m6, m7, m8, m9, m10, m11, m12, m13, m14, m15, m16, m17, m18, m19, s1, s2, rfl, rfl, hi0, hm⟩ ho hun hall K hK
                          have hi : i < 20 := (Array.getElem?_eq_some_iff.1 ho).1
                          have HM := Lib.hid hm
                          have HI := Lib.hid hi0
                          clear hm hi0
                          rcases (show i = 0 ∨ i = 1 ∨ i = 2 ∨ i = 3 ∨ i = 4 ∨ i = 5 ∨ i = 6 ∨ i = 7 ∨ i = 8 ∨ i = 9 ∨ i = 10 ∨ i = 11 ∨ i = 12 ∨ i = 13 ∨ i = 14 ∨ i = 15 ∨ i = 16 ∨ i = 17 ∨ i = 18 ∨ i = 19 by omega) with rfl | rfl | rfl | rfl | rfl | rfl | rfl | rfl | rfl | rfl | rfl | rfl | rfl | rfl | rfl | rfl | rfl | rfl | rfl | rfl
                          · obtain rfl := Option.some.inj (show some _ = some o from ho)
                            obtain rfl : m0 = false := by simpa using hun
                            clear hall hun hi ho
                            go_simp
                            exact hK.out _ _ ⟨true, m1, m2, m3, m4, m5, m6, m7, m8, m9, m10, m11, m12, m13, m14, m15, m16, m17, m18, m19, s1, s2, rfl, rfl, by obtain ⟨h0, h1, h2, h3⟩ := HI.out; exact ⟨fun e => by first | rfl | exact h0 e, fun e => by first | rfl | exact h1 e, fun e => by first | rfl | exact h2 e, fun e => by first | rfl | exact h3 e⟩, HM.out⟩
                          · obtain rfl := Option.some.inj (show some _ = some o from ho)
                            obtain rfl : m0 = true := getBT hall 0 rfl
                            obtain rfl : m1 = false := by simpa using hun
                            clear hall hun hi ho
                            go_simp
                            exact hK.out _ _ ⟨true, true, m2, m3, m4, m5, m6, m7, m8, m9, m10, m11, m12, m13, m14, m15, m16, m17, m18, m19, s1, s2, rfl, rfl, by obtain ⟨h0, h1, h2, h3⟩ := HI.out; exact ⟨fun e => by first | rfl | exact h0 e, fun e => by first | rfl | exact h1 e, fun e => by first | rfl | exact h2 e, fun e => by first | rfl | exact h3 e⟩, HM.out⟩
                          · obtain rfl := Option.some.inj (show some _ = some o from ho)
                            obtain rfl : m1 = true := getBT hall 1 rfl
                            obtain rfl : m2 = false := by simpa using hun
                            clear hall hun hi ho
                            go_simp
                            exact hK.out _ _ ⟨m0, true, true, m3, m4, m5, m6, m7, m8, m9, m10, m11, m12, m13, m14, m15, m16, m17, m18, m19, s1, s2, rfl, rfl, by obtain ⟨h0, h1, h2, h3⟩ := HI.out; exact ⟨fun e => by first | rfl | exact h0 e, fun e => by first | rfl | exact h1 e, fun e => by first | rfl | exact h2 e, fun e => by first | rfl | exact h3 e⟩, HM.out⟩
                          · obtain rfl := Option.some.inj (show some _ = some o from ho)
                            obtain rfl : m2 = true := getBT hall 2 rfl
                            obtain rfl : m3 = false := by simpa using hun
                            clear hall hun hi ho
                            have z0 : W.cell? ⟨w.heap.size + 3, 0, none⟩ = some (.map (some (w.heap.size + 1))) := HM.out.t.cell 0
                            go_simp
                            exact hK.out _ _ ⟨m0, m1, true, true, m4, m5, m6, m7, m8, m9, m10, m11, m12, m13, m14, m15, m16, m17, m18, m19, s1, s2, rfl, rfl, by obtain ⟨h0, h1, h2, h3⟩ := HI.out; exact ⟨fun e => by first | rfl | exact h0 e, fun e => by first | rfl | exact h1 e, fun e => by first | rfl | exact h2 e, fun e => by first | rfl | exact h3 e⟩, HM.out⟩
                          · obtain rfl := Option.some.inj (show some _ = some o from ho)
                            obtain rfl : m4 = false := by simpa using hun
                            clear hall hun hi ho
                            go_simp
                            exact hK.out _ _ ⟨m0, m1, m2, m3, true, m5, m6, m7, m8, m9, m10, m11, m12, m13, m14, m15, m16, m17, m18, m19, s1, s2, rfl, rfl, by obtain ⟨h0, h1, h2, h3⟩ := HI.out; exact ⟨fun e => by first | rfl | exact h0 e, fun e => by first | rfl | exact h1 e, fun e => by first | rfl | exact h2 e, fun e => by first | rfl | exact h3 e⟩, HM.out⟩
                          · obtain rfl := Option.some.inj (show some _ = some o from ho)
                            obtain rfl : m4 = true := getBT hall 4 rfl
                            obtain rfl : m5 = false := by simpa using hun
                            clear hall hun hi ho
                            have z0 : W.cell? ⟨wr.heap.size, 1, none⟩ = some (.int .i64 q) := HM.out.s.cell 1
                            go_simp
                            exact hK.out _ _ ⟨m0, m1, m2, m3, true, true, m6, m7, m8, m9, m10, m11, m12, m13, m14, m15, m16, m17, m18, m19, s1, s2, rfl, rfl, by obtain ⟨h0, h1, h2, h3⟩ := HI.out; exact ⟨fun e => by first | rfl | exact h0 e, fun e => by first | rfl | exact h1 e, fun e => by first | rfl | exact h2 e, fun e => by first | rfl | exact h3 e⟩, HM.out⟩
                          · obtain rfl := Option.some.inj (show some _ = some o from ho)
                            obtain rfl : m6 = false := by simpa using hun
                            clear hall hun hi ho
                            go_simp
                            exact hK.out _ _ ⟨m0, m1, m2, m3, m4, m5, true, m7, m8, m9, m10, m11, m12, m13, m14, m15, m16, m17, m18, m19, s1, s2, rfl, rfl, by obtain ⟨h0, h1, h2, h3⟩ := HI.out; exact ⟨fun e => by first | rfl | exact h0 e, fun e => by first | rfl | exact h1 e, fun e => by first | rfl | exact h2 e, fun e => by first | rfl | exact h3 e⟩, HM.out⟩
                          · obtain rfl := Option.some.inj (show some _ = some o from ho)
                            obtain rfl : m6 = true := getBT hall 6 rfl
                            obtain rfl : m7 = false := by simpa using hun
                            clear hall hun hi ho
                            go_simp
                            exact hK.out _ _ ⟨m0, m1, m2, m3, m4, m5, true, true, m8, m9, m10, m11, m12, m13, m14, m15, m16, m17, m18, m19, s1, s2, rfl, rfl, by obtain ⟨h0, h1, h2, h3⟩ := HI.out; exact ⟨fun e => by first | rfl | exact h0 e, fun e => by first | rfl | exact h1 e, fun e => by first | rfl | exact h2 e, fun e => by first | rfl | exact h3 e⟩, HM.out⟩
                          · obtain rfl := Option.some.inj (show some _ = some o from ho)
                            obtain rfl : m7 = true := getBT hall 7 rfl
                            obtain rfl : m8 = false := by simpa using hun
                            clear hall hun hi ho
                            go_simp
                            exact hK.out _ _ ⟨m0, m1, m2, m3, m4, m5, m6, true, true, m9, m10, m11, m12, m13, m14, m15, m16, m17, m18, m19, s1, s2, rfl, rfl, by obtain ⟨h0, h1, h2, h3⟩ := HI.out; exact ⟨fun e => by first | rfl | exact h0 e, fun e => by first | rfl | exact h1 e, fun e => by first | rfl | exact h2 e, fun e => by first | rfl | exact h3 e⟩, HM.out⟩
                          · obtain rfl := Option.some.inj (show some _ = some o from ho)
                            obtain rfl : m8 = true := getBT hall 8 rfl
                            obtain rfl : m9 = false := by simpa using hun
                            clear hall hun hi ho
                            have z0 : W.cell? ⟨w.heap.size + 3, 1, none⟩ = some (.map (some (w.heap.size + 2))) := HM.out.t.cell 1
                            go_simp
                            exact hK.out _ _ ⟨m0, m1, m2, m3, m4, m5, m6, m7, true, true, m10, m11, m12, m13, m14, m15, m16, m17, m18, m19, s1, s2, rfl, rfl, by obtain ⟨h0, h1, h2, h3⟩ := HI.out; exact ⟨fun e => by first | rfl | exact h0 e, fun e => by first | rfl | exact h1 e, fun e => by first | rfl | exact h2 e, fun e => by first | rfl | exact h3 e⟩, HM.out⟩
                          · obtain rfl := Option.some.inj (show some _ = some o from ho)
                            obtain rfl : m10 = false := by simpa using hun
                            clear hall hun hi ho
                            go_simp
                            exact hK.out _ _ ⟨m0, m1, m2, m3, m4, m5, m6, m7, m8, m9, true, m11, m12, m13, m14, m15, m16, m17, m18, m19, s1, s2, rfl, rfl, by obtain ⟨h0, h1, h2, h3⟩ := HI.out; exact ⟨fun e => by first | rfl | exact h0 e, fun e => by first | rfl | exact h1 e, fun e => by first | rfl | exact h2 e, fun e => by first | rfl | exact h3 e⟩, HM.out⟩
                          · obtain rfl := Option.some.inj (show some _ = some o from ho)
                            obtain rfl : m10 = true := getBT hall 10 rfl
                            obtain rfl : m11 = false := by simpa using hun
                            clear hall hun hi ho
                            have z0 : W.cell? ⟨wr.heap.size, 1, none⟩ = some (.int .i64 q) := HM.out.s.cell 1
                            go_simp
                            exact hK.out _ _ ⟨m0, m1, m2, m3, m4, m5, m6, m7, m8, m9, true, true, m12, m13, m14, m15, m16, m17, m18, m19, s1, s2, rfl, rfl, by obtain ⟨h0, h1, h2, h3⟩ := HI.out; exact ⟨fun e => by first | rfl | exact h0 e, fun e => by first | rfl | exact h1 e, fun e => by first | rfl | exact h2 e, fun e => by first | rfl | exact h3 e⟩, HM.out⟩
                          · obtain rfl := Option.some.inj (show some _ = some o from ho)
                            obtain rfl : m12 = false := by simpa using hun
                            clear hall hun hi ho
                            have z0 : W.cell? ⟨w3.heap.size, 0, none⟩ = some (.int .i64 ta) := HM.out.y.cell 0
                            have z1 : W.cell? ⟨w3.heap.size, 1, none⟩ = some (.int .i64 tb) := HM.out.y.cell 1
                            go_simp
                            exact hK.out _ _ ⟨m0, m1, m2, m3, m4, m5, m6, m7, m8, m9, m10, m11, true, m13, m14, m15, m16, m17, m18, m19, s1, s2, rfl, rfl, by obtain ⟨h0, h1, h2, h3⟩ := HI.out; exact ⟨fun e => by first | rfl | exact h0 e, fun e => by first | rfl | exact h1 e, fun e => by first | rfl | exact h2 e, fun e => by first | rfl | exact h3 e⟩, HM.out⟩
                          · obtain rfl := Option.some.inj (show some _ = some o from ho)
                            obtain rfl : m13 = false := by simpa using hun
                            clear hall hun hi ho
                            go_simp
                            exact hK.out _ _ ⟨m0, m1, m2, m3, m4, m5, m6, m7, m8, m9, m10, m11, m12, true, m14, m15, m16, m17, m18, m19, s1, s2, rfl, rfl, by obtain ⟨h0, h1, h2, h3⟩ := HI.out; exact ⟨fun e => by first | rfl | exact h0 e, fun e => by first | rfl | exact h1 e, fun e => by first | rfl | exact h2 e, fun e => by first | rfl | exact h3 e⟩, HM.out⟩
                          · obtain rfl := Option.some.inj (show some _ = some o from ho)
                            obtain rfl : m3 = true := getBT hall 3 rfl
                            obtain rfl : m5 = true := getBT hall 5 rfl
                            obtain rfl : m14 = false := by simpa using hun
                            clear hall hun hi ho
                            obtain rfl : m16 = false := by
                              cases m16
                              · rfl
                              · exact absurd (HI.out.1 rfl) (by simp)
                            obtain rfl : m15 = false := by
                              cases m15
                              · rfl
                              · exact absurd (HI.out.2.2.1 rfl) (by simp)
                            obtain ⟨st, W', hr, hE, hgrow, _⟩ := run_entry_new (K := iK) Tryd.underlying97 (z := .agg #[.int .i64 0, .int .i64 0]) (fun w => by first | exact Tryd.zeroValue50 w | kernel_rfl) (HM.out.a1 rfl) HNO1.out
                            have hr' : (Instr.mapEntry 97 (.map (some (w.heap.size + 1))) (.int .i64 q)).run Tryd.prog W = .ok (.tuple #[.agg #[.int .i64 0, .int .i64 0], .int .i64 (st : Int)]) W' := hr
                            have HN := Lib.hid (HM.out.turn (j := w.heap.size + 1) (v14 := true) (v16 := false) (v17 := m17) (v19 := m19) (t1 := st) (t2 := s2) (.inl rfl) (Nat.le_refl _) HLOW.out.1 HLOW.out.2 hgrow (fun e => absurd e (by simp)) (fun _ _ => hE) (fun e => absurd e (by simp)) (fun e => (HM.out.b1 e).grown hgrow (by simp)) (fun e e2 => (HM.out.b2 e e2).grown hgrow (by simp)) (fun e => (HM.out.b3 e).grown hgrow (by simp)))
                            clear hE hgrow hr
                            go_simp
                            clear hr'
                            exact hK.out _ _ ⟨m0, m1, m2, true, m4, true, m6, m7, m8, m9, m10, m11, m12, m13, true, false, false, m17, m18, m19, st, s2, rfl, rfl, by obtain ⟨h0, h1, h2, h3⟩ := HI.out; exact ⟨fun e => by first | rfl | exact h0 e, fun e => by first | rfl | exact h1 e, fun e => by first | rfl | exact h2 e, fun e => by first | rfl | exact h3 e⟩, HN.out⟩
                          · obtain rfl := Option.some.inj (show some _ = some o from ho)
                            obtain rfl : m14 = true := getBT hall 14 rfl
                            obtain rfl : m15 = false := by simpa using hun
                            clear hall hun hi ho
                            go_simp
                            exact hK.out _ _ ⟨m0, m1, m2, m3, m4, m5, m6, m7, m8, m9, m10, m11, m12, m13, true, true, m16, m17, m18, m19, s1, s2, rfl, rfl, by obtain ⟨h0, h1, h2, h3⟩ := HI.out; exact ⟨fun e => by first | rfl | exact h0 e, fun e => by first | rfl | exact h1 e, fun e => by first | rfl | exact h2 e, fun e => by first | rfl | exact h3 e⟩, HM.out⟩
                          · obtain rfl := Option.some.inj (show some _ = some o from ho)
                            obtain rfl : m3 = true := getBT hall 3 rfl
                            obtain rfl : m12 = true := getBT hall 12 rfl
                            obtain rfl : m14 = true := getBT hall 14 rfl
                            obtain rfl : m15 = true := getBT hall 15 rfl
                            obtain rfl : m16 = false := by simpa using hun
                            clear hall hun hi ho
                            obtain ⟨W', hr, hE, hgrow, _⟩ := run_estore (P := Tryd.prog) (t := 97) (HM.out.a2 rfl rfl) (wv (ta, tb))
                            have HN := Lib.hid (HM.out.turn (j := w.heap.size + 1) (v14 := true) (v16 := true) (v17 := m17) (v19 := m19) (t1 := s1) (t2 := s2) (.inl rfl) (Nat.le_refl _) HLOW.out.1 HLOW.out.2 hgrow (fun e => absurd e (by simp)) (fun _ e => absurd e (by simp)) (fun _ => by rw [← ents_snoc]; exact hE) (fun e => (HM.out.b1 e).grown hgrow (by simp)) (fun e e2 => (HM.out.b2 e e2).grown hgrow (by simp)) (fun e => (HM.out.b3 e).grown hgrow (by simp)))
                            clear hE hgrow
                            have hr' : (Instr.entryStore 97 (.map (some (w.heap.size + 1))) (.int .i64 (s1 : Int)) (.agg #[.int .i64 ta, .int .i64 tb])).run Tryd.prog W = .ok () W' := hr
                            clear hr
                            go_simp
                            clear hr'
                            exact hK.out _ _ ⟨m0, m1, m2, true, m4, m5, m6, m7, m8, m9, m10, m11, true, m13, true, true, true, m17, m18, m19, s1, s2, rfl, rfl, by obtain ⟨h0, h1, h2, h3⟩ := HI.out; exact ⟨fun e => by first | rfl | exact h0 e, fun e => by first | rfl | exact h1 e, fun e => by first | rfl | exact h2 e, fun e => by first | rfl | exact h3 e⟩, HN.out⟩
                          · obtain rfl := Option.some.inj (show some _ = some o from ho)
                            obtain rfl : m9 = true := getBT hall 9 rfl
                            obtain rfl : m11 = true := getBT hall 11 rfl
                            obtain rfl : m17 = false := by simpa using hun
                            clear hall hun hi ho
                            obtain rfl : m19 = false := by
                              cases m19
                              · rfl
                              · exact absurd (HI.out.2.1 rfl) (by simp)
                            obtain rfl : m18 = false := by
                              cases m18
                              · rfl
                              · exact absurd (HI.out.2.2.2 rfl) (by simp)
                            obtain ⟨st, W', hr, hE, hgrow, _⟩ := run_entry_new (K := iK) Tryd.underlying98 (z := .int .i64 0) (fun w => by first | exact Tryd.zeroValue3 w | kernel_rfl) (HM.out.b1 rfl) HNO2.out
                            have hr' : (Instr.mapEntry 98 (.map (some (w.heap.size + 2))) (.int .i64 q)).run Tryd.prog W = .ok (.tuple #[.int .i64 0, .int .i64 (st : Int)]) W' := hr
                            have HN := Lib.hid (HM.out.turn (j := w.heap.size + 2) (v14 := m14) (v16 := m16) (v17 := true) (v19 := false) (t1 := s1) (t2 := st) (.inr rfl) (Nat.le_refl _) HLOW.out.1 HLOW.out.2 hgrow (fun e => (HM.out.a1 e).grown hgrow (by simp)) (fun e e2 => (HM.out.a2 e e2).grown hgrow (by simp)) (fun e => (HM.out.a3 e).grown hgrow (by simp)) (fun e => absurd e (by simp)) (fun _ _ => hE) (fun e => absurd e (by simp)))
                            clear hE hgrow hr
                            go_simp
                            clear hr'
                            exact hK.out _ _ ⟨m0, m1, m2, m3, m4, m5, m6, m7, m8, true, m10, true, m12, m13, m14, m15, m16, true, false, false, s1, st, rfl, rfl, by obtain ⟨h0, h1, h2, h3⟩ := HI.out; exact ⟨fun e => by first | rfl | exact h0 e, fun e => by first | rfl | exact h1 e, fun e => by first | rfl | exact h2 e, fun e => by first | rfl | exact h3 e⟩, HN.out⟩
                          · obtain rfl := Option.some.inj (show some _ = some o from ho)
                            obtain rfl : m17 = true := getBT hall 17 rfl
                            obtain rfl : m18 = false := by simpa using hun
                            clear hall hun hi ho
                            go_simp
                            exact hK.out _ _ ⟨m0, m1, m2, m3, m4, m5, m6, m7, m8, m9, m10, m11, m12, m13, m14, m15, m16, true, true, m19, s1, s2, rfl, rfl, by obtain ⟨h0, h1, h2, h3⟩ := HI.out; exact ⟨fun e => by first | rfl | exact h0 e, fun e => by first | rfl | exact h1 e, fun e => by first | rfl | exact h2 e, fun e => by first | rfl | exact h3 e⟩, HM.out⟩
                          · obtain rfl := Option.some.inj (show some _ = some o from ho)
                            obtain rfl : m9 = true := getBT hall 9 rfl
                            obtain rfl : m13 = true := getBT hall 13 rfl
                            obtain rfl : m17 = true := getBT hall 17 rfl
                            obtain rfl : m18 = true := getBT hall 18 rfl
                            obtain rfl : m19 = false := by simpa using hun
                            clear hall hun hi ho
                            obtain ⟨W', hr, hE, hgrow, _⟩ := run_estore (P := Tryd.prog) (t := 98) (HM.out.b2 rfl rfl) (i64v (k : Int))
                            have HN := Lib.hid (HM.out.turn (j := w.heap.size + 2) (v14 := m14) (v16 := m16) (v17 := true) (v19 := true) (t1 := s1) (t2 := s2) (.inr rfl) (Nat.le_refl _) HLOW.out.1 HLOW.out.2 hgrow (fun e => (HM.out.a1 e).grown hgrow (by simp)) (fun e e2 => (HM.out.a2 e e2).grown hgrow (by simp)) (fun e => (HM.out.a3 e).grown hgrow (by simp)) (fun e => absurd e (by simp)) (fun _ e => absurd e (by simp)) (fun _ => by rw [← ents_snoc]; exact hE))
                            clear hE hgrow
                            have hr' : (Instr.entryStore 98 (.map (some (w.heap.size + 2))) (.int .i64 (s2 : Int)) (.int .i64 (k : Int))).run Tryd.prog W = .ok () W' := hr
                            clear hr
                            go_simp
                            clear hr'
                            exact hK.out _ _ ⟨m0, m1, m2, m3, m4, m5, m6, m7, m8, true, m10, m11, m12, true, m14, m15, m16, true, true, true, s1, s2, rfl, rfl, by obtain ⟨h0, h1, h2, h3⟩ := HI.out; exact ⟨fun e => by first | rfl | exact h0 e, fun e => by first | rfl | exact h1 e, fun e => by first | rfl | exact h2 e, fun e => by first | rfl | exact h3 e⟩, HN.out⟩
                        · rintro l a W ⟨m0, m1, m2, m3, m4, m5, m6, m7, m8, m9, m10, m11, m12, m13, m14, m15, m16, m17, m18, m19, s1, s2, rfl, rfl, _, hm⟩ hall
                          obtain rfl : m0 = true := hall 0 (by decide)
                          obtain rfl : m1 = true := hall 1 (by decide)
                          obtain rfl : m2 = true := hall 2 (by decide)
                          obtain rfl : m3 = true := hall 3 (by decide)
                          obtain rfl : m4 = true := hall 4 (by decide)
                          obtain rfl : m5 = true := hall 5 (by decide)
                          obtain rfl : m6 = true := hall 6 (by decide)
                          obtain rfl : m7 = true := hall 7 (by decide)
                          obtain rfl : m8 = true := hall 8 (by decide)
                          obtain rfl : m9 = true := hall 9 (by decide)
                          obtain rfl : m10 = true := hall 10 (by decide)
                          obtain rfl : m11 = true := hall 11 (by decide)
                          obtain rfl : m12 = true := hall 12 (by decide)
                          obtain rfl : m13 = true := hall 13 (by decide)
                          obtain rfl : m14 = true := hall 14 (by decide)
                          obtain rfl : m15 = true := hall 15 (by decide)
                          obtain rfl : m16 = true := hall 16 (by decide)
                          obtain rfl : m17 = true := hall 17 (by decide)
                          obtain rfl : m18 = true := hall 18 (by decide)
                          obtain rfl : m19 = true := hall 19 (by decide)
                          clear hall
                          have HM := Lib.hid hm
                          clear hm
                          dsimp only [cw, cond_true]
                          go_wp2_with fail
                          go_roundw
                          case rel => exact ⟨k + 1, _, _, _, _, _, _, by omega, by go_num, fun j hj => by
                                                        by_cases e : j = k
                                                        · rw [e]; exact HE.out
                                                        · exact HOK.out j (by omega), HM.out.done (Nat.le_refl _) HX.out HNO.out HTO.out HQ9.out.al HQ9.out.dl⟩
                          case measure => simp [intOf]; omega
                        --WN
            · have hpb := (isNB_iff p).2 hp
              have hqb : isNB q = false := by rw [← Bool.not_eq_true, isNB_iff]; exact hq
              have hE : okE f L k = 3 := by
                unfold okE stepE
                rw [← HX.out, if_pos (fun e => hq e.2)]
              have HE := Lib.hid (RunPost.err (A := some ⟨bs, off, none⟩) (n := n) (cap := cap) (bw_new HQ.out.low (.cells #[.int .i64 p, .int .i64 q] 27)) (runE_at HF.out (by rw [HL.out]; exact h200) (by rw [HL.out]; exact hlt) HOK.out hE (by decide)) (by decide))
              clear hp hq hE
              go_wp2_with fail
              refine (HIN.out _ _).mono ?_
              rintro e w1 ⟨rfl, rfl⟩
              rw [hpb]
              go_wp2_with fail
              refine (HIN.out _ _).mono ?_
              rintro e w1 ⟨rfl, rfl⟩
              rw [hqb]
              go_wp2
              go_ret2
              exact HE.out
          · have hpb : isNB p = false := by rw [← Bool.not_eq_true, isNB_iff]; exact hp
            have hE : okE f L k = 3 := by
              unfold okE stepE
              rw [← HX.out, if_pos (fun e => hp e.1)]
            have HE := Lib.hid (RunPost.err (A := some ⟨bs, off, none⟩) (n := n) (cap := cap) (bw_new HQ.out.low (.cells #[.int .i64 p, .int .i64 q] 27)) (runE_at HF.out (by rw [HL.out]; exact h200) (by rw [HL.out]; exact hlt) HOK.out hE (by decide)) (by decide))
            clear hp hE
            go_wp2_with fail
            refine (HIN.out _ _).mono ?_
            rintro e w1 ⟨rfl, rfl⟩
            rw [hpb]
            go_wp2
            go_ret2
            exact HE.out
        · obtain rfl : k = n := by omega
          have HE := Lib.hid (show RunPost w f L A k cap (.returned (.tuple #[.pointer (some ⟨w.heap.size + 3, 0, none⟩), .int .i64 0])) wr from ⟨HQ.out.low, .inr ⟨runE_zero HF.out (by rw [HL.out]; exact h200) (by rw [HL.out]; exact HOK.out), GA, gn, gc, DA, dn, dc, rfl, HQ.out⟩⟩)
          go_wp2
          go_ret2
          exact HE.out
  · have hfb : isNB f = false := by rw [← Bool.not_eq_true, isNB_iff]; exact hf
    have HE := Lib.hid (show runE f L = 3 by unfold runE; rw [if_pos hf])
    clear hL hr hf
    go_enter Tryd.func33, Tryd.ntmps33
    go_wp2_with fail
    refine (HIN.out _ _).mono ?_
    rintro e w1 ⟨rfl, rfl⟩
    rw [hfb]
    go_wp2
    go_ret2
    exact RunPost.err (bw_new (Below.refl _ _) _) HE.out (by decide)
end Go.Proofs.YtfickhncbahekaaDoor
