/- The law's away, walked. Conditions: the task is right. -/
import Derived.Test.YtfickhncbahekaaDoorTunAway
import Derived.Test.YtfickhncbahekaaDoorTunPlan
import Derived.Deep.OwnRows
namespace Go.Proofs.YtfickhncbahekaaDoor
open Go.RowKit Go.Deep

theorem made128 : madeCells #[.int .i64 0] 128 = ((List.replicate 128 (0 : Int)).map i64v).toArray := by kernel_rfl
def mOf (w : World) (g : Nat) : Nat := match w.heap[g]? with | some (.cells cs _ _) => sumG msrN (cs.toList.map intOf) | _ => 0
theorem mOf_blk {w : World} {g : Nat} {D : List Int} (h : Blk w g 3 (D.map i64v)) : mOf w g = sumG msrN D := by
  unfold mOf
  unfold Blk at h
  rw [h]
  simp only [List.map_map]
  congr 1
  have : (intOf ∘ i64v) = id := by funext x; rfl
  rw [this, List.map_id]
/-- Whether the rounds go on. -/
def AwO (w : World) (f s1 s2 lo hi : Int) (u : Value) (wx : World) : Prop := ∃ (D : List Int) (c : Bool), u = .bool c ∧ Aw lo hi f D ∧ Hp w [(w.heap.size, 43, tkcs f s1 s2 lo hi), (w.heap.size + 1, 3, D.map i64v)] wx ∧ (c = true ∨ ∀ n, lo ≤ n → n ≤ hi → ∀ b ∈ bys, Cl lo hi D n b)
/-- Within a round. -/
def AwM (w : World) (f s1 s2 lo hi : Int) (D2 : List Int) (u v : Value) (wx : World) : Prop := ∃ (D : List Int) (c : Bool) (n : Int), u = .bool c ∧ v = .int .i64 n ∧ lo ≤ n ∧ n ≤ hi + 1 ∧ Aw lo hi f D ∧ Hp w [(w.heap.size, 43, tkcs f s1 s2 lo hi), (w.heap.size + 1, 3, D.map i64v)] wx ∧ ((c = true ∧ sumG msrN D < sumG msrN D2) ∨ (c = false ∧ D = D2 ∧ ∀ m, lo ≤ m → m < n → ∀ b ∈ bys, Cl lo hi D2 m b))
/-- At a note. -/
def AwI (w : World) (f s1 s2 lo hi : Int) (D2 : List Int) (S : Nat) (m : Nat) (u v : Value) (wx : World) : Prop := ∃ (D : List Int) (c : Bool) (j : Nat), u = .bool c ∧ v = .int .i64 (j : Int) ∧ j ≤ 6 ∧ Aw lo hi f D ∧ Hp w [(w.heap.size, 43, tkcs f s1 s2 lo hi), (w.heap.size + 1, 3, D.map i64v), (S, 3, bys.map i64v)] wx ∧ ((c = true ∧ sumG msrN D < sumG msrN D2) ∨ (c = false ∧ D = D2 ∧ (∀ m', lo ≤ m' → m' < m → ∀ b ∈ bys, Cl lo hi D2 m' b) ∧ ∀ b ∈ bys.take j, Cl lo hi D2 m b))
def bO : Value → Nat | .bool true => 1 | _ => 0
/-- The memory of away. -/
abbrev AwP (w : World) (f s1 s2 lo hi : Int) (D : List Int) (W : World) : Prop := Hp w [(w.heap.size, 43, tkcs f s1 s2 lo hi), (w.heap.size + 1, 3, D.map i64v)] W
abbrev AwQ (w : World) (f s1 s2 lo hi : Int) (S : Nat) (D : List Int) (W : World) : Prop := Hp w [(w.heap.size, 43, tkcs f s1 s2 lo hi), (w.heap.size + 1, 3, D.map i64v), (S, 3, bys.map i64v)] W
theorem dget {D : List Int} (hl : D.length = 128) {k : Nat} (h : k < 128) : (D.map i64v)[k]? = some (.int .i64 (dz D k)) := by
  have : k < D.length := by omega
  simp [dz, this, i64v]

set_option maxRecDepth 1000000 in
set_option maxHeartbeats 8000000 in
theorem away_any (f : Int) (s : Nat × Nat) (lo hi : Int) (w : World) (h0 : 0 ≤ lo) (h1 : hi ≤ 127) (hf0 : lo ≤ f) (hf1 : f ≤ hi) :
    Calls Tryd.prog 36 #[tv f s lo hi] w fun e w' => ∃ g D, e = .returned (.slice (some ⟨g, 0, none⟩) 128 128) ∧ Awd lo hi f D ∧ Blk w' g 3 (D.map i64v) ∧ w.heap.size ≤ g ∧ Below w.heap.size w w' := by
  obtain ⟨s1, s2⟩ := s
  unfold tv
  dsimp only
  have hmk : ∀ X, (Instr.makeSlice 46 (.int .i64 128) (.int .i64 128)).run Tryd.prog X = .ok (.slice (some ⟨X.heap.size, 0, none⟩) 128 128) (X.alloc (.cells ((List.replicate 128 (0 : Int)).map i64v).toArray 3)) := fun X => by
    have := run_make_row' (P := Tryd.prog) 46 3 (.int .i64 0) 8 Tryd.underlying46 infoIntT rfl .i64 .i64 128 (by omega) (by omega) X
    rw [made128] at this
    exact this
  obtain ⟨D0, hD0⟩ : ∃ D0, D0 = List.replicate 128 (0 : Int) := ⟨_, rfl⟩
  rw [← hD0] at hmk
  have hm0 := ((Hp.start w).new 43 (tkcs f (s1 : Int) (s2 : Int) lo hi)).new 3 (D0.map i64v)
  simp only [World.size_alloc, List.nil_append, List.cons_append] at hm0
  have HM := Lib.hid hm0
  have HL0 := Lib.hid (show D0.length = 128 by rw [hD0]; simp)
  clear hm0 hD0
  go_enter Tryd.func36, Tryd.ntmps36
  go_wp2_with fail
  go_loopw [13] (fun u wx => ∃ (i : Nat) (D : List Int), i ≤ 128 ∧ u = .int .i64 (i : Int) ∧ D.length = 128 ∧ (∀ j, j < i → dz D j = -1) ∧ AwP w f s1 s2 lo hi D wx) (fun u _ => 128 - (intOf u).toNat)
  case atStart => exact ⟨0, D0, by omega, rfl, HL0.out, fun j hj => absurd hj (by omega), HM.out⟩
  case round =>
    obtain ⟨i, D, hi', rfl, hl, hj, hp⟩ := hrel
    have HP := Lib.hid hp
    have HL := Lib.hid hl
    have HJ := Lib.hid hj
    by_cases hil : i < 128
    · have c0 : wr.cell? ⟨w.heap.size + 1, i, none⟩ = some (.int .i64 (dz D i)) := by rw [(hp.at_ 1 rfl).cell i]; exact dget hl hil
      have f0 := (hp.at_ 1 rfl).frozen i
      have hn := hp.put 1 rfl i (.int .i64 (-1))
      have e1 : (D.map i64v).set i (.int .i64 (-1)) = (D.set i (-1)).map i64v := by rw [List.map_set]
      rw [e1] at hn
      have HN := Lib.hid hn
      clear hn hp hl hj e1
      go_wp2
      go_roundw
      case rel =>
        refine ⟨i + 1, _, by omega, rfl, by rw [List.length_set]; exact HL.out, fun j hj => ?_, HN.out⟩
        have := dz_set D (i : Int) (j : Int) (-1) (by unfold isN; omega) (by unfold isN; omega) HL.out
        rw [Int.toNat_natCast] at this
        rw [this]
        split
        · rfl
        · exact HJ.out j (by omega)
      case measure => simp [intOf]; omega
    · obtain rfl : i = 128 := by omega
      have hD : D = List.replicate 128 (-1) := by
        refine List.ext_getElem (by rw [hl]; simp) fun k hk1 hk2 => ?_
        have := hj k (by omega)
        unfold dz at this
        rw [List.getD_eq_getElem?_getD, Int.toNat_natCast, List.getElem?_eq_getElem hk1] at this
        rw [List.getElem_replicate]
        exact this
      subst hD
      clear hl hj
      have hN : isN f := by unfold isN; omega
      obtain ⟨fn, rfl⟩ : ∃ fn : Nat, f = fn := ⟨f.toNat, by omega⟩
      have hput := hp.put 1 rfl fn (.int .i64 0)
      have e1 : ((List.replicate 128 (-1 : Int)).map i64v).set fn (.int .i64 0) = ((List.replicate 128 (-1)).set fn 0).map i64v := by rw [List.map_set]
      rw [e1] at hput
      have haw := aw_start (f := (fn : Int)) h0 h1 ⟨hf0, hf1⟩
      rw [Int.toNat_natCast] at haw
      have hfl : (fn : Int) < 128 := by omega
      have cf : wr.cell? ⟨w.heap.size, 0, none⟩ = some (.int .i64 (fn : Int)) := (hp.at_ 0 rfl).cell 0
      have cg : wr.cell? ⟨w.heap.size + 1, fn, none⟩ = some (.int .i64 (dz (List.replicate 128 (-1)) (fn : Int))) := by rw [(hp.at_ 1 rfl).cell fn]; exact dget (by simp) (by omega)
      have fg := (hp.at_ 1 rfl).frozen fn
      obtain ⟨D1, hD1⟩ : ∃ D1, D1 = (List.replicate 128 (-1 : Int)).set fn 0 := ⟨_, rfl⟩
      rw [← hD1] at haw hput
      have HPUT := Lib.hid hput
      have HAW := Lib.hid haw
      clear hp hput e1 haw hD1 hN HP HL HJ
      go_wp2_with fail
      go_loopw [5] (fun u wx => AwO w fn s1 s2 lo hi u wx) (fun u wx => 2 * mOf wx (w.heap.size + 1) + bO u)
      case atStart => exact ⟨D1, true, rfl, HAW.out, HPUT.out, .inl rfl⟩
      case round =>
        clear cf cg
        obtain ⟨D2, c, rfl, haw2, hp2, hc2⟩ := hrel
        have HA2 := Lib.hid haw2
        have HP2 := Lib.hid hp2
        have HC2 := Lib.hid hc2
        have HMS := Lib.hid (mOf_blk (hp2.at_ 1 rfl))
        clear haw2 hc2
        cases c with
        | true =>
          have c3 : wr.cell? ⟨w.heap.size, 3, none⟩ = some (.int .i64 lo) := (hp2.at_ 0 rfl).cell 3
          clear hp2
          go_wp2_with fail
          go_loopw [5, 6] (fun u v wx => AwM w fn s1 s2 lo hi D2 u v wx) (fun _ v _ => (hi + 1 - intOf v).toNat)
          case atStart => exact ⟨D2, false, lo, rfl, rfl, by omega, by omega, HA2.out, HP2.out, .inr ⟨rfl, rfl, fun m q1 q2 => absurd q2 (by omega)⟩⟩
          case round =>
            obtain ⟨D3, c, n, rfl, rfl, hn0, hn1, haw3, hp3, hc3⟩ := hrel
            have HA3 := Lib.hid haw3
            have HP3 := Lib.hid hp3
            have HC3 := Lib.hid hc3
            have c4 : wr.cell? ⟨w.heap.size, 4, none⟩ = some (.int .i64 hi) := (hp3.at_ 0 rfl).cell 4
            have hmo := mOf_blk (hp3.at_ 1 rfl)
            have HMO := Lib.hid hmo
            clear haw3 c3 hmo hc3
            by_cases hnh : n ≤ hi
            · have hq := hp3.new 3 (bys.map i64v)
              simp only [List.cons_append, List.nil_append] at hq
              have HQ := Lib.hid hq
              obtain ⟨m, rfl⟩ : ∃ m : Nat, n = m := ⟨n.toNat, by omega⟩
              clear hq hp3
              go_wp2_with fail
              obtain ⟨S0, hS0⟩ : ∃ S0, S0 = wr.heap.size := ⟨_, rfl⟩
              have HQ' := HQ.out
              rw [← hS0] at HQ' ⊢
              replace HQ' := Lib.hid HQ'
              clear hS0 HQ
              go_loopw [5, 37] (fun u v wx => AwI w fn s1 s2 lo hi D2 S0 m u v wx) (fun _ v _ => 6 - (intOf v).toNat)
              case atStart =>
                refine ⟨D3, c, 0, rfl, rfl, by omega, HA3.out, HQ'.out, ?_⟩
                rcases HC3.out with ⟨e1, e2⟩ | ⟨e1, e2, e3⟩
                · exact .inl ⟨e1, e2⟩
                · exact .inr ⟨e1, e2, e3, by simp⟩
              case round =>
                obtain ⟨D4, c', j, rfl, rfl, hj6, haw4, hp4, hc4⟩ := hrel
                have HA4 := Lib.hid haw4
                have HP4 := Lib.hid hp4
                have HC4 := Lib.hid hc4
                by_cases hj : j < 6
                · obtain ⟨b, hb⟩ : ∃ b, b = bys.getD j 0 := ⟨_, rfl⟩
                  have hbm : b ∈ bys := by rw [hb]; have : j < bys.length := hj; simp [List.getD, this]
                  have htk : bys.take (j + 1) = bys.take j ++ [b] := by rw [hb]; exact take_snocD bys j 0 hj
                  have hcb := (hp4.at_ 2 rfl).cell j
                  rw [show (bys.map i64v)[j]? = some (.int .i64 b) from by rw [hb]; have : j < bys.length := hj; simp [List.getD, this, i64v]] at hcb
                  have hbb : -12 ≤ b ∧ b ≤ 12 := by
                    simp only [bys, List.mem_cons, List.not_mem_nil, or_false] at hbm
                    omega
                  obtain ⟨hb1, hb2⟩ := hbb
                  have HBM := Lib.hid hbm
                  have HTK := Lib.hid htk
                  obtain ⟨dn, hdn⟩ : ∃ dn, dn = dz D4 m := ⟨_, rfl⟩
                  have HDN := Lib.hid hdn
                  have hmm : (m : Int) < 128 := by omega
                  have hmm2 : m < 128 := by omega
                  have cn : wr.drew.cell? ⟨w.heap.size + 1, m, none⟩ = some (.int .i64 dn) := by
                    have := (hp4.at_ 1 rfl).cell m
                    rw [dget haw4.len hmm2, ← hdn] at this
                    exact this
                  have c3 : wr.drew.cell? ⟨w.heap.size, 3, none⟩ = some (.int .i64 lo) := (hp4.at_ 0 rfl).cell 3
                  have c4' : wr.drew.cell? ⟨w.heap.size, 4, none⟩ = some (.int .i64 hi) := (hp4.at_ 0 rfl).cell 4
                  have hwk : IntKind.i64.wrap ((m : Int) + b) = (m : Int) + b := IntWalk.i64_in _ (by omega)
                  have hdn0 : -1 ≤ dn := by rw [hdn]; exact haw4.ge m (by unfold isN; omega)
                  have hdn1 : dn ≤ 127 := by rw [hdn]; have := haw4.bd m (by unfold isN; omega); omega
                  -- a turn that changes nothing
                  have HSAME := Lib.hid (show Cl lo hi D4 m b → AwI w fn s1 s2 lo hi D2 S0 m (.bool c') (.int .i64 ((j : Int) + 1)) wr.drew from fun hcl => by
                    refine ⟨D4, c', j + 1, rfl, rfl, by omega, HA4.out, HP4.out.drew, ?_⟩
                    rcases HC4.out with ⟨e1, e2⟩ | ⟨e1, e2, e3, e4⟩
                    · exact .inl ⟨e1, e2⟩
                    · refine .inr ⟨e1, e2, e3, fun b' hb' => ?_⟩
                      rw [HTK.out, List.mem_append, List.mem_singleton] at hb'
                      rcases hb' with hb' | hb'
                      · exact e4 b' hb'
                      · rw [hb', ← e2]; exact hcl)
                  clear hb hbm htk haw4 hc4 hdn c4
                  by_cases hq0 : 0 ≤ dn
                  · by_cases hk1 : lo ≤ (m : Int) + b
                    · by_cases hk2 : (m : Int) + b ≤ hi
                      · obtain ⟨kk, hkk⟩ : ∃ kk : Nat, (m : Int) + b = kk := ⟨((m : Int) + b).toNat, by omega⟩
                        have hkl : (kk : Int) < 128 := by omega
                        have hkl2 : kk < 128 := by omega
                        obtain ⟨dk, hdk⟩ : ∃ dk, dk = dz D4 kk := ⟨_, rfl⟩
                        have hdk0 : -1 ≤ dk := by rw [hdk]; exact HA4.out.ge kk (by unfold isN; omega)
                        have hdk1 : dk ≤ 127 := by rw [hdk]; have := HA4.out.bd kk (by unfold isN; omega); omega
                        have ck : wr.drew.cell? ⟨w.heap.size + 1, kk, none⟩ = some (.int .i64 dk) := by
                          have := (hp4.at_ 1 rfl).cell kk
                          rw [dget HA4.out.len hkl2, ← hdk] at this
                          exact this
                        have fk := (hp4.drew.at_ 1 rfl).frozen kk
                        have hwk2 : IntKind.i64.wrap ((m : Int) + b) = (kk : Int) := by rw [hwk, hkk]
                        have hkm1 : lo ≤ (kk : Int) := by omega
                        have hkm2 : (kk : Int) ≤ hi := by omega
                        have g0 : decide (0 ≤ dn) = true := by simpa using hq0
                        have g1 : decide (lo ≤ (kk : Int)) = true := by simpa using hkm1
                        have g2 : decide ((kk : Int) ≤ hi) = true := by simpa using hkm2
                        have hwd : IntKind.i64.wrap (dn + 1) = dn + 1 := IntWalk.i64_in _ (by omega)
                        have HNEAR := Lib.hid (show (dk < 0 ∨ dn + 1 < dk) → AwI w fn s1 s2 lo hi D2 S0 m (.bool true) (.int .i64 ((j : Int) + 1)) (wr.drew.setCell ⟨w.heap.size + 1, kk, none⟩ (.int .i64 (dn + 1))) from fun hor => by
                          have hnr := HA4.out.near h0 h1 ⟨hf0, hf1⟩ (n := (m : Int)) (b := b) ⟨hn0, hnh⟩ HBM.out ⟨hk1, hk2⟩ (by rw [← HDN.out]; exact hq0) (by rw [hkk, ← hdk, ← HDN.out]; exact hor)
                          rw [hkk, Int.toNat_natCast, ← HDN.out] at hnr
                          have hpt := HP4.out.drew.put 1 rfl kk (.int .i64 (dn + 1))
                          have e1 : (D4.map i64v).set kk (.int .i64 (dn + 1)) = (D4.set kk (dn + 1)).map i64v := by rw [List.map_set]
                          rw [e1] at hpt
                          refine ⟨D4.set kk (dn + 1), true, j + 1, rfl, rfl, by omega, hnr.1, hpt, .inl ⟨rfl, ?_⟩⟩
                          rcases HC4.out with ⟨_, e2⟩ | ⟨_, e2, _⟩
                          · exact Nat.lt_trans hnr.2 e2
                          · rw [← e2]; exact hnr.2)
                        have HCL := Lib.hid (show 0 ≤ dk → dk ≤ dn + 1 → Cl lo hi D4 m b from fun q1 q2 _ _ _ => by rw [hkk, ← hdk, ← HDN.out]; exact ⟨q1, q2⟩)
                        clear hwk hdk hp4 hk1 hk2
                        by_cases hd0 : dk < 0
                        · have HS := Lib.hid (HNEAR.out (.inl hd0))
                          have g3 : decide (dk < 0) = true := by simpa using hd0
                          go_wp2_with fail
                          go_region
                          all_goals
                            go_wp2
                            go_roundw
                            case rel => exact HS.out
                            case measure => simp [intOf]; omega
                        · by_cases hd1 : dn + 1 < dk
                          · have HS := Lib.hid (HNEAR.out (.inr hd1))
                            have g3 : decide (dk < 0) = false := by simpa using hd0
                            have g4 : decide (dn + 1 < dk) = true := by simpa using hd1
                            have hge : 0 ≤ dk := by omega
                            go_wp2_with fail
                            go_region
                            all_goals
                              go_wp2
                              go_roundw
                              case rel => exact HS.out
                              case measure => simp [intOf]; omega
                          · have HS := Lib.hid (HSAME.out (HCL.out (by omega) (by omega)))
                            have g3 : decide (dk < 0) = false := by simpa using hd0
                            have g4 : decide (dn + 1 < dk) = false := by simpa using hd1
                            have hge : 0 ≤ dk := by omega
                            have hge2 : dk ≤ dn + 1 := by omega
                            go_wp2_with fail
                            go_region
                            all_goals
                              go_wp2
                              go_roundw
                              case rel => exact HS.out
                              case measure => simp [intOf]; omega
                      · have HS := Lib.hid (HSAME.out (fun _ _ q => absurd q hk2))
                        have g0 : decide (0 ≤ dn) = true := by simpa using hq0
                        have g1 : decide (lo ≤ (m : Int) + b) = true := by simpa using hk1
                        have g2 : decide ((m : Int) + b ≤ hi) = false := by simpa using hk2
                        have hk3 : hi < (m : Int) + b := by omega
                        clear hp4 hk2
                        go_wp2_with fail
                        go_region
                        all_goals
                          go_wp2
                          go_roundw
                          case rel => exact HS.out
                          case measure => simp [intOf]; omega
                    · have HS := Lib.hid (HSAME.out (fun _ q _ => absurd q hk1))
                      have g0 : decide (0 ≤ dn) = true := by simpa using hq0
                      have g1 : decide (lo ≤ (m : Int) + b) = false := by simpa using hk1
                      have hk3 : (m : Int) + b < lo := by omega
                      clear hp4 hk1
                      go_wp2_with fail
                      go_region
                      all_goals
                        go_wp2
                        go_roundw
                        case rel => exact HS.out
                        case measure => simp [intOf]; omega
                  · have HS := Lib.hid (HSAME.out (fun q _ _ => absurd (by rw [HDN.out]; exact q) hq0))
                    have g0 : decide (0 ≤ dn) = false := by simpa using hq0
                    have hk3 : dn < 0 := by omega
                    clear hp4 hq0
                    go_wp2_with fail
                    go_region
                    all_goals
                      go_wp2
                      go_roundw
                      case rel => exact HS.out
                      case measure => simp [intOf]; omega
                · obtain rfl : j = 6 := by omega
                  have HS := Lib.hid (show AwM w fn s1 s2 lo hi D2 (.bool c') (.int .i64 ((m : Int) + 1)) wr from by
                    refine ⟨D4, c', (m : Int) + 1, rfl, rfl, by omega, by omega, HA4.out, HP4.out.sub (by simp), ?_⟩
                    rcases HC4.out with ⟨e1, e2⟩ | ⟨e1, e2, e3, e4⟩
                    · exact .inl ⟨e1, e2⟩
                    · refine .inr ⟨e1, e2, fun q hq1 hq2 b hb => ?_⟩
                      by_cases hqm : q = (m : Int)
                      · rw [hqm]; exact e4 b hb
                      · exact e3 q hq1 (by omega) b hb)
                  clear haw4 hc4 hp4
                  go_wp2
                  go_roundw
                  case rel => exact HS.out
                  case measure => simp [intOf]; omega
            · have HPE := Lib.hid hp3
              clear hp3
              go_wp2
              go_roundw
              case rel =>
                refine ⟨D3, c, rfl, HA3.out, HPE.out, ?_⟩
                rcases HC3.out with ⟨e1, _⟩ | ⟨_, e2, e3⟩
                · exact .inl e1
                · exact .inr (by rw [e2]; exact fun k q1 q2 => e3 k q1 (by omega))
              case measure =>
                rw [HMO.out, HMS.out]
                rcases HC3.out with ⟨e1, e2⟩ | ⟨e1, e2, e3⟩
                · subst e1; simp only [bO]; omega
                · subst e1; subst e2; simp only [bO]; omega
        | false =>
          have HDN := Lib.hid (HA2.out.done h0 h1 ⟨hf0, hf1⟩ (HC2.out.resolve_left (by simp)))
          clear hp2
          go_wp2
          go_ret
          exact ⟨w.heap.size + 1, D2, rfl, HDN.out, HP2.out.at_ 1 rfl, by omega, HP2.out.below⟩
end Go.Proofs.YtfickhncbahekaaDoor
