/- Package tuner: open. Conditions: the compass is right, and the first note lies in it. -/
import Derived.Test.YtfickhncbahekaaDoorTunSort
import Derived.RegionTactic
import Derived.ChangeAlike
import Derived.Deep.DeepCutAuto
import Derived.IntWalk
namespace Go.Proofs.YtfickhncbahekaaDoor
open Go.RowKit

/-- The cells of a task. -/
def tkcs (f s1 s2 lo hi : Int) : List Value := [.int .i64 f, .int .u64 s1, .int .u64 s2, .int .i64 lo, .int .i64 hi]
/-- What the search carries. -/
structure OpPack (w : World) (f s1 s2 lo hi : Int) (s : Se) (W : World) : Prop where
  hp : Hp w [(w.heap.size, 43, tkcs f s1 s2 lo hi), (w.heap.size + 1, 103, [.map none, .map none]), (w.heap.size + 4, 103, [.map (some (w.heap.size + 2)), .map (some (w.heap.size + 3))])] W
  m1 : MapC iK W (w.heap.size + 2) (ents i64v s.away)
  m2 : MapC iK W (w.heap.size + 3) (ents i64v s.frm)
  size : w.heap.size + 5 ≤ W.heap.size
theorem OpPack.step {w W W' : World} {f s1 s2 lo hi : Int} {s : Se} (h : OpPack w f s1 s2 lo hi s W) (hb : Below W.heap.size W W') : OpPack w f s1 s2 lo hi s W' :=
  ⟨h.hp.step hb, h.m1.step hb, h.m2.step hb, Nat.le_trans h.size hb.size⟩
theorem OpPack.grown {w W W' : World} {f s1 s2 lo hi : Int} {s : Se} (h : OpPack w f s1 s2 lo hi s W) {row : Option Nat} (hg : W.grownBy W' row) (hr : ∀ q, row = some q → w.heap.size + 5 ≤ q) : OpPack w f s1 s2 lo hi s W' :=
  ⟨h.hp.grown hg (fun q e => ⟨by have := hr q e; omega, fun p hp => by
    have := hr q e
    simp only [List.mem_cons, List.not_mem_nil, or_false] at hp
    rcases hp with rfl | rfl | rfl <;> simp <;> omega⟩), h.m1.grown hg (fun e => by have := hr _ e.symm; omega), h.m2.grown hg (fun e => by have := hr _ e.symm; omega), Nat.le_trans h.size hg.size⟩
/-- The maps have new entries. -/
theorem OpPack.maps {w W W1 W' : World} {f s1 s2 lo hi : Int} {s t : Se} (h : OpPack w f s1 s2 lo hi s W) (h1 : W.grownBy W1 (some (w.heap.size + 2))) (h2 : W1.grownBy W' (some (w.heap.size + 3)))
    (m1 : MapC iK W1 (w.heap.size + 2) (ents i64v t.away)) (m2 : MapC iK W' (w.heap.size + 3) (ents i64v t.frm)) : OpPack w f s1 s2 lo hi t W' := by
  have hne : ∀ (j : Nat), j = w.heap.size + 2 ∨ j = w.heap.size + 3 → ∀ q, some j = some q → w.heap.size ≤ q ∧ ∀ p ∈ [(w.heap.size, 43, tkcs f s1 s2 lo hi), (w.heap.size + 1, 103, [.map none, .map none]), (w.heap.size + 4, 103, [.map (some (w.heap.size + 2)), .map (some (w.heap.size + 3))])], p.1 ≠ q := fun j hj q e => by
    cases e
    refine ⟨by omega, fun p hp => ?_⟩
    simp only [List.mem_cons, List.not_mem_nil, or_false] at hp
    rcases hp with rfl | rfl | rfl <;> simp <;> omega
  exact ⟨(h.hp.grown h1 (hne _ (.inl rfl))).grown h2 (hne _ (.inr rfl)), m1.grown h2 (by simp), m2, Nat.le_trans h.size (Nat.le_trans h1.size h2.size)⟩
theorem look_iv {W : World} {b : Nat} {m : List (Int × Int)} (h : MapC iK W b (ents i64v m)) (p : Int) :
    (Instr.lookup 98 (.map (some b)) (.int .i64 p) true).run Tryd.prog W = .ok (.tuple #[.int .i64 ((lkz p m).getD 0), .bool (lkz p m).isSome]) W ∧
    (Instr.lookup 98 (.map (some b)) (.int .i64 p) false).run Tryd.prog W = .ok (.int .i64 ((lkz p m).getD 0)) W := by
  have h1 := run_look iK Tryd.underlying98 (z := .int .i64 0) (fun w => by first | exact Tryd.zeroValue3 w | kernel_rfl) h.mapB p true
  have h2 := run_look iK Tryd.underlying98 (z := .int .i64 0) (fun w => by first | exact Tryd.zeroValue3 w | kernel_rfl) h.mapB p false
  rw [ents_get] at h1 h2
  have e1 : ((lkz p m).map i64v).getD (.int .i64 0) = .int .i64 ((lkz p m).getD 0) := by cases lkz p m <;> rfl
  have e2 : ((lkz p m).map i64v).isSome = (lkz p m).isSome := by cases lkz p m <;> rfl
  rw [e1] at h1 h2
  rw [e2] at h1
  exact ⟨h1, h2⟩
/-- What open answers. -/
def OpenPost (w : World) (lo hi f : Int) (e : Ending) (w' : World) : Prop :=
  ∃ (s : Se), e = .returned (.agg #[.map (some (w.heap.size + 2)), .map (some (w.heap.size + 3))]) ∧ Bfs lo hi f s ∧ MapC iK w' (w.heap.size + 2) (ents i64v s.away) ∧ MapC iK w' (w.heap.size + 3) (ents i64v s.frm) ∧ Below w.heap.size w w'

theorem index_bys (j : Nat) (hj : j < 6) (W : World) : (Instr.index 122 (.agg #[.int .i64 (-12), .int .i64 (-7), .int .i64 (-5), .int .i64 5, .int .i64 7, .int .i64 12]) (.int .i64 (j : Int))).run Tryd.prog W = .ok (.int .i64 (bys.getD j 0)) W := by
  have : j = 0 ∨ j = 1 ∨ j = 2 ∨ j = 3 ∨ j = 4 ∨ j = 5 := by omega
  rcases this with rfl | rfl | rfl | rfl | rfl | rfl <;> simp [Instr.index, run_underlying Tryd.underlying122, go_sem, bys]
theorem bys_bd (j : Nat) : -12 ≤ bys.getD j 0 ∧ bys.getD j 0 ≤ 12 := by
  rcases Nat.lt_or_ge j 6 with h | h
  · have : j = 0 ∨ j = 1 ∨ j = 2 ∨ j = 3 ∨ j = 4 ∨ j = 5 := by omega
    rcases this with rfl | rfl | rfl | rfl | rfl | rfl <;> decide
  · have : bys.getD j 0 = 0 := by simp [bys, show 6 ≤ j from h]
    omega
theorem own_one {w : World} {g : Nat} {x : Int} (h : Blk w g 3 [.int .i64 x]) {base : Nat} (hb : base ≤ g) : w.ownsRow base 3 1 (.slice (some ⟨g, 0, none⟩) 1 1) 1 ([x].map i64v) :=
  ⟨rfl, .inr ⟨g, 1, #[.int .i64 x], rfl, hb, h, Nat.le_refl _, by unfold maxLen; omega, rfl, rfl⟩⟩

/-- What the loops within a layer carry. -/
structure LyPack (w : World) (f s1 s2 lo hi : Int) (d : Nat) (ls : List Int) (LA : Option Addr) (lc Z n0 : Nat) (P : Int → Int → Prop) (s : Se) (NA : Option Addr) (nc : Nat) (W : World) : Prop where
  inv : PInv lo hi f d P s
  op : OpPack w f s1 s2 lo hi s W
  ly : W.ownsRow (w.heap.size + 5) 3 1 (.slice LA ls.length lc) ls.length (ls.map i64v)
  nx : W.ownsRow Z 3 1 (.slice NA s.next.length nc) s.next.length (s.next.map i64v)
  len : s.away.length = n0 + s.next.length
  size : Z ≤ W.heap.size
theorem LyPack.app {w W W' : World} {f s1 s2 lo hi : Int} {d : Nat} {ls : List Int} {LA : Option Addr} {lc Z n0 : Nat} {P : Int → Int → Prop} {t : Se} {l : List Int} {x : Int} {NB : Option Addr} {nd : Nat} {o : Obj} {g rc : Nat}
    (hinv : PInv lo hi f d P t) (hop : OpPack w f s1 s2 lo hi t W) (hly : W.ownsRow (w.heap.size + 5) 3 1 (.slice LA ls.length lc) ls.length (ls.map i64v)) (hoff : ∀ q, (Value.slice LA ls.length lc).ownBlock = some q → q < Z)
    (hZ : Z ≤ W.heap.size) (hlen : t.away.length = n0 + t.next.length) (e : t.next = l ++ [x]) (hnx : ∀ q, (Value.slice NB l.length nd).ownBlock = some q → Z ≤ q) (hZ5 : w.heap.size + 5 ≤ Z)
    (hown : W'.ownsRow Z 3 1 (.slice (some ⟨g, 0, none⟩) (l.length + 1) rc) (l.length + 1) (l.map i64v ++ [.int .i64 x])) (hgrow : (W.alloc o).grownBy W' (Value.slice NB l.length nd).ownBlock) :
    LyPack w f s1 s2 lo hi d ls LA lc Z n0 P t (some ⟨g, 0, none⟩) rc W' where
  inv := hinv
  op := (hop.step (bw_new (Below.refl _ _) o)).grown hgrow (fun q hq => by have := hnx q hq; omega)
  ly := own_grown (own_below hly (bw_new (Below.refl _ _) o)) hgrow (fun q hq e2 => by have := hoff q hq; have := hnx q e2; omega)
  nx := by
    rw [e, List.length_append, List.map_append]
    exact hown
  len := hlen
  size := by have := hgrow.size; rw [World.size_alloc] at this; omega
theorem relax_same {lo hi n b : Int} {s : Se} (h : n + b < lo ∨ hi < n + b ∨ (lkz (n + b) s.away).isSome = true) : relax lo hi n s b = s := by
  unfold relax
  by_cases h1 : n + b < lo ∨ hi < n + b
  · rw [if_pos h1]
  · rw [if_neg h1]
    have h2 : (lkz (n + b) s.away).isSome = true := by rcases h with h | h | h <;> first | exact h | (exfalso; omega)
    cases hl : lkz (n + b) s.away with
    | none => rw [hl] at h2; cases h2
    | some v => rfl
theorem relax_new {lo hi n b : Int} {s : Se} {v : Int} (h1 : lo ≤ n + b) (h2 : n + b ≤ hi) (h3 : lkz (n + b) s.away = none) (h4 : (lkz n s.away).getD 0 = v) : relax lo hi n s b = ⟨s.away ++ [(n + b, v + 1)], s.frm ++ [(n + b, n)], s.next ++ [n + b]⟩ := by
  unfold relax
  rw [if_neg (by omega), h3, ← h4]

set_option maxRecDepth 1000000 in
set_option maxHeartbeats 8000000 in
theorem open_any (f s1 s2 lo hi : Int) (w : World) (h0 : 0 ≤ lo) (h1 : hi ≤ 127) (hf : lo ≤ f ∧ f ≤ hi) :
    Calls Tryd.prog 43 #[.agg #[.int .i64 f, .int .u64 s1, .int .u64 s2, .int .i64 lo, .int .i64 hi]] w (OpenPost w lo hi f) := by
  have hmm := @run_makeMap Tryd.prog
  have hm0 := ((Hp.start w).new 43 (tkcs f s1 s2 lo hi)).new 103 [.map none, .map none]
  simp only [World.size_alloc, List.nil_append, List.cons_append] at hm0
  obtain ⟨W0, hW0⟩ : ∃ W0, W0 = (w.alloc (.cells (tkcs f s1 s2 lo hi).toArray 43)).alloc (.cells [Value.map none, .map none].toArray 103) := ⟨_, rfl⟩
  have hz0 : W0.heap.size = w.heap.size + 2 := by rw [hW0]; simp
  rw [← hW0] at hm0
  have hM1 := MapC.new (K := iK) W0
  rw [hz0] at hM1
  obtain ⟨W1, hr1, hm1, hg1, hs1⟩ := run_store_new (K := iK) Tryd.underlying98 hM1 (mget_nil f) (i64v 0)
  have hz1 : W1.heap.size = w.heap.size + 3 := by rw [hs1, World.size_alloc, hz0]
  have hmp1 : Hp w [(w.heap.size, 43, tkcs f s1 s2 lo hi), (w.heap.size + 1, 103, [.map none, .map none])] W1 := (hm0.alloc _).grown hg1 (fun q e => by
    cases e
    refine ⟨by omega, fun p hp => ?_⟩
    simp only [List.mem_cons, List.not_mem_nil, or_false] at hp
    rcases hp with rfl | rfl <;> simp)
  have hmp2 := (hmp1.alloc (.map #[] 0)).new 103 [.map (some (w.heap.size + 2)), .map (some (w.heap.size + 3))]
  have hM2 := MapC.new (K := iK) W1
  simp only [World.size_alloc, hz1, List.nil_append, List.cons_append] at hmp2
  rw [hz1] at hM2
  have hop : OpPack w f s1 s2 lo hi ⟨[(f, 0)], [], []⟩ ((W1.alloc (.map #[] 0)).alloc (.cells #[.map (some (w.heap.size + 2)), .map (some (w.heap.size + 3))] 103)) :=
    ⟨hmp2, (hm1.alloc _).alloc _, hM2.alloc _, by simp [hz1]⟩
  obtain ⟨W2, hW2⟩ : ∃ W2, W2 = (W1.alloc (.map #[] 0)).alloc (.cells #[.map (some (w.heap.size + 1 + 1)), .map (some (w.heap.size + 3))] 103) := ⟨_, rfl⟩
  have hop2 : OpPack w f s1 s2 lo hi ⟨[(f, 0)], [], []⟩ W2 := by rw [hW2]; exact hop
  have hz2 : W2.heap.size = w.heap.size + 5 := by rw [hW2]; simp [hz1]
  have hop3 := hop2.step (bw_new (Below.refl _ _) (.cells #[.int .i64 f] 3))
  have hB3 : Blk (W2.alloc (.cells #[.int .i64 f] 3)) W2.heap.size 3 [.int .i64 f] := heap_alloc_new W2 _
  have hrow := own_one hB3 (base := w.heap.size + 5) (by omega)
  have HOP := Lib.hid hop3
  have HROW := Lib.hid hrow
  have HW2 := Lib.hid hW2
  have HZ2 := Lib.hid hz2
  have c0 : W1.cell? ⟨w.heap.size, 0, none⟩ = some (.int .i64 f) := (hmp1.at_ 0 rfl).cell 0
  have c2 : W2.cell? ⟨w.heap.size, 0, none⟩ = some (.int .i64 f) := (hop2.hp.at_ 0 rfl).cell 0
  have hr1' : (Instr.mapUpdate 98 (.map (some (w.heap.size + 1 + 1))) (.int .i64 f) (.int .i64 0)).run Tryd.prog (((w.alloc (.cells #[.int .i64 f, .int .u64 s1, .int .u64 s2, .int .i64 lo, .int .i64 hi] 43)).alloc (.cells #[.map none, .map none] 103)).alloc (.map #[] 0)) = .ok () W1 := by rw [hW0] at hr1; exact hr1
  have HR1 := Lib.hid hr1'
  have HZ1 := Lib.hid hz1
  clear hm0 hW0 hz0 hM1 hr1 hm1 hg1 hs1 hz1 hmp1 hmp2 hM2 hop hr1' hop2 hop3 hB3 hrow hW2 hz2
  go_enter Tryd.func43, Tryd.ntmps43
  go_wp2_with fail
  rw [HR1.out]
  simp only [Result.andThen]
  rw [Oper.upon_skip]
  have hz1 := HZ1.out
  go_wp2_with fail
  rw [← HW2.out]
  have hz2 := HZ2.out
  go_wp2_with fail
  go_loopw [4] (fun u wx => ∃ (d : Nat) (s : Se) (layer : List Int) (LA : Option Addr) (lc : Nat), u = .slice LA layer.length lc ∧ LInv lo hi f d s layer ∧ OpPack w f s1 s2 lo hi s wx ∧ wx.ownsRow (w.heap.size + 5) 3 1 (.slice LA layer.length lc) layer.length (layer.map i64v)) (fun u wx => 2 * (128 - mlen wx (w.heap.size + 2)) + (if lenOf u = 0 then 0 else 1))
  case atStart => exact ⟨0, ⟨[(f, 0)], [], []⟩, [f], some ⟨W2.heap.size, 0, none⟩, 1, by rw [hz2]; rfl, linv_zero, HOP.out, HROW.out⟩
  case round =>
    obtain ⟨d, s, layer, LA, lc, rfl, hinv, hop, hrow⟩ := hrel
    have HIN := Lib.hid hinv
    have HO := Lib.hid hop
    have HR := Lib.hid hrow
    obtain ⟨hl1, hl2⟩ := hinv.lens hf h0 h1
    clear hinv hop hrow c0 c2 hz1 hz2
    by_cases hpos : 0 < layer.length
    · have HS := Lib.hid (sort_own layer HR.out hpos (by omega))
      go_wp2_with fail
      refine HS.out.mono ?_
      rintro e w3 ⟨rfl, hrow3, hgrow3⟩
      have hlen : (srt layer).length = layer.length := (srt_perm layer).length_eq
      have hO3 := HO.out.grown hgrow3 (fun q e => (HR.out.lt _ e).1)
      obtain ⟨ls, hls⟩ : ∃ ls, ls = srt layer := ⟨_, rfl⟩
      have hlt := srt_lt HIN.out.nd
      have hinv3 := HIN.out.perm (srt_perm layer)
      rw [← hls] at hlen hrow3 hlt hinv3
      rw [← hlen] at hrow3 hpos hl2 ⊢
      obtain ⟨n0, hn0⟩ : ∃ n0, n0 = s.away.length := ⟨_, rfl⟩
      have hmlen : mlen wr (w.heap.size + 2) = n0 := by rw [HO.out.m1.mlen, hn0]; simp [ents]
      have HML := Lib.hid hmlen
      have HLT := Lib.hid hlt
      have HLY := Lib.hid hinv3.ly
      have hly0 : LyPack w f s1 s2 lo hi d ls LA lc w3.heap.size n0 (lookP (ls.take 0) (ls.getD 0 0) []) ⟨s.away, s.frm, []⟩ none 0 w3 :=
        ⟨hinv3.start.congr (fun m k => by rw [List.take_zero]; exact (lookP_nil _ m k).symm), ⟨hO3.hp, hO3.m1, hO3.m2, hO3.size⟩, hrow3, World.ownsRow_nil _ _ _ _, by simp [hn0], Nat.le_refl _⟩
      have HL0 := Lib.hid hly0
      have hoff : ∀ q, (Value.slice LA ls.length lc).ownBlock = some q → q < w3.heap.size := fun q e => (hrow3.lt _ e).2
      have HOFF := Lib.hid hoff
      have HLEN := Lib.hid hlen
      have hsz3 : w.heap.size + 5 ≤ w3.heap.size := hO3.size
      clear hO3 hrow3 hgrow3 hls hlt hinv3 hn0 hmlen hly0 hoff HS HIN HO HR hl1 hlen
      go_wp2_with fail
      go_loopw [5, 29] (fun u v wx => ∃ (i : Nat) (s' : Se) (NA : Option Addr) (nc : Nat), i ≤ ls.length ∧ v = .int .i64 (i : Int) ∧ u = .slice NA s'.next.length nc ∧ LyPack w f s1 s2 lo hi d ls LA lc w3.heap.size n0 (lookP (ls.take i) (ls.getD i 0) []) s' NA nc wx) (fun _ v _ => ls.length - (intOf v).toNat)
      case atStart => exact ⟨0, _, _, _, by omega, rfl, rfl, HL0.out⟩
      case round =>
        obtain ⟨i, s', NA, nc, hiL, rfl, rfl, hp⟩ := hrel
        have HP := Lib.hid hp
        by_cases hil : i < ls.length
        · obtain ⟨b, off, hA, hbb, hcs⟩ := (Rd.of_own (enc := i64v) (L := ls) hp.ly rfl).at_ hpos
          subst hA
          have hx0 := hcs i hil
          obtain ⟨n, hn⟩ : ∃ n, n = ls.getD i 0 := ⟨_, rfl⟩
          have hx1 : wr.cell? ⟨b, off + i, none⟩ = some (.int .i64 n) := by rw [hx0, hn]; simp [hil]
          have hnr : lo ≤ n ∧ n ≤ hi := by
            have hm : n ∈ ls := by rw [hn]; simp [List.getD, hil]
            exact ((HLY.out n).1 hm).1.range hf
          have HN := Lib.hid hn
          have hHI := HP.out
          clear hcs hx0 hp
          rw [← hn] at hHI
          have HQ := Lib.hid hHI
          clear hHI HP hn
          go_wp2_with fail
          go_loopw [5, 34] (fun u v wx => ∃ (j : Nat) (s'' : Se) (NB : Option Addr) (nd : Nat), j ≤ 6 ∧ v = .int .i64 (j : Int) ∧ u = .slice NB s''.next.length nd ∧ LyPack w f s1 s2 lo hi d ls (some ⟨b, off, none⟩) lc w3.heap.size n0 (lookP (ls.take i) n (bys.take j)) s'' NB nd wx) (fun _ v _ => 6 - (intOf v).toNat)
          case atStart => exact ⟨0, _, _, _, by omega, rfl, rfl, HQ.out⟩
          case round =>
            obtain ⟨j, s'', NB, nd, hj, rfl, rfl, hp⟩ := hrel
            have HP := Lib.hid hp
            clear hp hx1
            by_cases hjl : j < 6
            · have hix := index_bys j hjl wr
              obtain ⟨c, hc⟩ : ∃ c, c = bys.getD j 0 := ⟨_, rfl⟩
              have hcb := bys_bd j
              rw [← hc] at hix hcb
              obtain ⟨hcb1, hcb2⟩ := hcb
              have HC := Lib.hid hc
              have c3 : wr.cell? ⟨w.heap.size, 3, none⟩ = some (.int .i64 lo) := (HP.out.op.hp.at_ 0 rfl).cell 3
              have c4 : wr.cell? ⟨w.heap.size, 4, none⟩ = some (.int .i64 hi) := (HP.out.op.hp.at_ 0 rfl).cell 4
              have c5 : wr.cell? ⟨w.heap.size + 4, 0, none⟩ = some (.map (some (w.heap.size + 2))) := (HP.out.op.hp.at_ 2 rfl).cell 0
              have c6 : wr.cell? ⟨w.heap.size + 4, 1, none⟩ = some (.map (some (w.heap.size + 3))) := (HP.out.op.hp.at_ 2 rfl).cell 1
              have hnx := PInv.one hf HLT.out HLY.out hil hjl (s := s'') (by rw [← HN.out]; exact HP.out.inv)
              rw [← HN.out, ← hc] at hnx
              have HNX := Lib.hid hnx
              have hlen := (HP.out.inv.lens hf h0 h1)
              have hle1 := hlen.1
              have hle2 := hlen.2
              clear hc hnx hlen
              -- a step that adds nothing
              have hsame : relax lo hi n s'' c = s'' → LyPack w f s1 s2 lo hi d ls (some ⟨b, off, none⟩) lc w3.heap.size n0 (lookP (ls.take i) n (bys.take (j + 1))) s'' NB nd wr := fun e =>
                ⟨by have := HNX.out; rw [e] at this; exact this, HP.out.op, HP.out.ly, HP.out.nx, HP.out.len, HP.out.size⟩
              have HSAME := Lib.hid hsame
              clear hsame
              obtain ⟨hnr1, hnr2⟩ := hnr
              by_cases hk1 : n + c < lo
              · have HS := Lib.hid (HSAME.out (relax_same (.inl hk1)))
                go_wp2
                go_roundw
                case rel => exact ⟨j + 1, _, _, _, by omega, by go_num, rfl, HS.out⟩
                case measure => simp [intOf]; omega
              · by_cases hk2 : hi < n + c
                · have HS := Lib.hid (HSAME.out (relax_same (.inr (.inl hk2))))
                  go_wp2
                  go_roundw
                  case rel => exact ⟨j + 1, _, _, _, by omega, by go_num, rfl, HS.out⟩
                  case measure => simp [intOf]; omega
                · have hlk := (look_iv HP.out.op.m1 (n + c)).1
                  cases hkn : lkz (n + c) s''.away with
                  | some v =>
                    rw [hkn] at hlk
                    simp only [Option.getD_some, Option.isSome_some] at hlk
                    have HS := Lib.hid (HSAME.out (relax_same (.inr (.inr (by rw [hkn]; rfl)))))
                    clear hkn
                    go_wp2
                    go_roundw
                    case rel => exact ⟨j + 1, _, _, _, by omega, by go_num, rfl, HS.out⟩
                    case measure => simp [intOf]; omega
                  | none =>
                    rw [hkn] at hlk
                    simp only [Option.getD_none, Option.isSome_none] at hlk
                    have hkn1 : (lkz n s''.away).getD 0 = (d : Int) := by
                      have : lkz n s''.away = some (d : Int) := (HP.out.inv.aw n d).2 (.inl ⟨d, Nat.le_refl _, rfl, (HLY.out n).1 (by rw [HN.out]; simp [List.getD, hil])⟩)
                      rw [this]; rfl
                    have hnew := relax_new (lo := lo) (hi := hi) (s := s'') (n := n) (b := c) (by omega) (by omega) hkn hkn1
                    obtain ⟨v, hv⟩ : ∃ v, v = (lkz n s''.away).getD 0 := ⟨_, rfl⟩
                    have hvb : v = (d : Int) := by rw [hv]; exact hkn1
                    have hln := (look_iv HP.out.op.m1 n).2
                    rw [← hv] at hln
                    have HNEW := Lib.hid hnew
                    have HKN := Lib.hid hkn
                    have hd : d ≤ 127 := ((HLY.out n).1 (by rw [HN.out]; simp [List.getD, hil])).le hf h0 h1
                    subst hvb
                    obtain ⟨Wm1, hr1, hm1, hg1, hs1⟩ := run_store_new (K := iK) Tryd.underlying98 HP.out.op.m1.drew (by rw [ents_get, HKN.out]; rfl : mget (ents i64v s''.away) (n + c) = none) (i64v ((d : Int) + 1))
                    have hfn : lkz (n + c) s''.frm = none := by
                      cases hq : lkz (n + c) s''.frm with
                      | none => rfl
                      | some m =>
                        exfalso
                        have hds : ∃ e, Ds lo hi f (n + c) e ∧ (e ≤ d ∨ (e = d + 1 ∧ ∃ m, lookP (ls.take i) n (bys.take j) m (n + c))) := by
                          rcases (HP.out.inv.fr _ _).1 hq with ⟨e, he1, he2⟩ | ⟨he1, he2⟩
                          · exact ⟨e + 1, he2.1, .inl he1⟩
                          · exact ⟨d + 1, he1.1, .inr ⟨rfl, m, he2⟩⟩
                        obtain ⟨e, he1, he2⟩ := hds
                        have : lkz (n + c) s''.away = some (e : Int) := by
                          rw [HP.out.inv.aw]
                          rcases he2 with he2 | ⟨he2, he3⟩
                          · exact .inl ⟨e, he2, rfl, he1⟩
                          · subst he2; exact .inr ⟨rfl, he1, he3⟩
                        rw [HKN.out] at this
                        cases this
                    obtain ⟨Wm2, hr2, hm2, hg2, hs2⟩ := run_store_new (K := iK) Tryd.underlying98 ((HP.out.op.m2.drew).grown hg1 (by simp)) (by rw [ents_get, hfn]; rfl : mget (ents i64v s''.frm) (n + c) = none) (i64v n)
                    have hr1' : (Instr.mapUpdate 98 (.map (some (w.heap.size + 2))) (.int .i64 (n + c)) (.int .i64 ((d : Int) + 1))).run Tryd.prog wr.drew = .ok () Wm1 := hr1
                    have hr2' : (Instr.mapUpdate 98 (.map (some (w.heap.size + 3))) (.int .i64 (n + c)) (.int .i64 n)).run Tryd.prog Wm1 = .ok () Wm2 := hr2
                    have hln' : (Instr.lookup 98 (.map (some (w.heap.size + 2))) (.int .i64 n) false).run Tryd.prog wr.drew = .ok (.int .i64 (d : Int)) wr.drew := by
                      have := (look_iv HP.out.op.m1.drew n).2
                      rw [← hv] at this
                      exact this
                    rw [ents_snoc] at hm1 hm2
                    have hop' : OpPack w f s1 s2 lo hi (relax lo hi n s'' c) Wm2 := by
                      rw [HNEW.out]
                      exact OpPack.maps (s := s'') (HP.out.op.step (bw_drew (Below.refl _ _))) hg1 hg2 hm1 hm2
                    have hnx' : Wm2.ownsRow w3.heap.size 3 1 (.slice NB s''.next.length nd) s''.next.length (s''.next.map i64v) :=
                      own_grown (own_grown (own_below HP.out.nx (bw_drew (Below.refl _ _))) hg1 (fun g e e2 => by cases e2; have := (HP.out.nx.lt _ e).1; omega)) hg2 (fun g e e2 => by cases e2; have := (HP.out.nx.lt _ e).1; omega)
                    have hly' : Wm2.ownsRow (w.heap.size + 5) 3 1 (.slice (some ⟨b, off, none⟩) ls.length lc) ls.length (ls.map i64v) :=
                      own_grown (own_grown (own_below HP.out.ly (bw_drew (Below.refl _ _))) hg1 (fun g e e2 => by cases e2; have := (HP.out.ly.lt _ e).1; omega)) hg2 (fun g e e2 => by cases e2; have := (HP.out.ly.lt _ e).1; omega)
                    have hsz' : w3.heap.size ≤ Wm2.heap.size := by rw [hs2, hs1]; exact HP.out.size
                    have HOP' := Lib.hid hop'
                    have HNX' := Lib.hid hnx'
                    have HLY' := Lib.hid hly'
                    have HLEN' := Lib.hid (relax_len lo hi n s'' c HP.out.len)
                    obtain ⟨i0, hi, hz0, hz1, hz2⟩ := info_parts infoIntT
                    have HI0 := Lib.hid hi
                    have HZ0 := Lib.hid hz0
                    have HZ1 := Lib.hid hz1
                    have HZ2 := Lib.hid hz2
                    have hwd : IntKind.i64.wrap ((d : Int) + 1) = (d : Int) + 1 := IntWalk.i64_in _ (by omega)
                    have c5' : Wm1.cell? ⟨w.heap.size + 4, 0, none⟩ = some (.map (some (w.heap.size + 2))) := by
                      have := ((HP.out.op.hp.at_ 2 rfl).drew).grw hg1 (by simp)
                      exact this.cell 0
                    have c6' : Wm1.cell? ⟨w.heap.size + 4, 1, none⟩ = some (.map (some (w.heap.size + 3))) := by
                      have := ((HP.out.op.hp.at_ 2 rfl).drew).grw hg1 (by simp)
                      exact this.cell 1
                    clear hr1 hr2 hm1 hm2 hg1 hg2 hs1 hs2 hfn hop' hnx' hly' hnew hkn hkn1 hv hi hz0 hz1 hz2 hln
                    have hnb := fun q hq => (HNX'.out.lt q hq).1
                    have HNB := Lib.hid hnb
                    clear hnb
                    go_wp2_with fail
                    go_region
                    all_goals
                      go_wp2_with (at_builtin; refine wpList_append_own _ rfl _ _ 46 rfl w3.heap.size 3 i0 (.int .i64 0) 1 8 Tryd.underlying46 HI0.out HZ0.out HZ1.out HZ2.out rfl (by decide) _ _ _ rfl (own_below HNX'.out (bw_new (Below.refl _ _) _)) ⟨Wm2.heap.size, 0, none⟩ 1 1 [.int .i64 (n + c)] rfl rfl (World.news_of_block (cs := #[.int .i64 (n + c)]) (t := 3) (fr := (0, 0)) (heap_alloc_new Wm2 _)) (by simp [Value.oneCell']) (by unfold maxLen; omega) (by omega) (by simp; omega) ?_)
                      intro v' w9 hown hgrow _
                      obtain ⟨g, rc2, hv, hrc2⟩ := own_form hown (by omega)
                      subst hv
                      have HFIN := Lib.hid (LyPack.app (l := s''.next) (x := n + c) HNX.out HOP'.out HLY'.out HOFF.out hsz' HLEN'.out (by rw [HNEW.out]) HNB.out hsz3 hown hgrow)
                      have HLN2 := Lib.hid (show s''.next.length + 1 = (relax lo hi n s'' c).next.length by rw [HNEW.out]; simp)
                      clear hown hgrow hr1' hr2' hln' hlk
                      go_wp2
                      go_roundw
                      case rel => exact ⟨j + 1, _, _, _, by omega, by go_num, by rw [← HLN2.out], HFIN.out⟩
                      case measure => simp [intOf]; omega
            · obtain rfl : j = 6 := by omega
              have HF := Lib.hid (show LyPack w f s1 s2 lo hi d ls (some ⟨b, off, none⟩) lc w3.heap.size n0 (lookP (ls.take (i + 1)) (ls.getD (i + 1) 0) []) s'' NB nd wr from
                ⟨PInv.row hil _ (by rw [← HN.out]; exact HP.out.inv), HP.out.op, HP.out.ly, HP.out.nx, HP.out.len, HP.out.size⟩)
              go_wp2
              go_roundw
              case rel => exact ⟨i + 1, _, _, _, by omega, by go_num, rfl, HF.out⟩
              case measure => simp [intOf]; omega
        · obtain rfl : i = ls.length := by omega
          have hall := PInv.all HLY.out hp.inv
          have HALL := Lib.hid hall
          have HNXT := Lib.hid (own_low hp.nx hsz3)
          have HOPE := Lib.hid hp.op
          have hml : mlen wr (w.heap.size + 2) = n0 + s'.next.length := by rw [hp.op.m1.mlen, ← hp.len]; simp [ents]
          have HMR := Lib.hid hml
          have hle := (hp.inv.lens hf h0 h1).1
          have hle2 := hp.len
          have hn128 : n0 + s'.next.length ≤ 128 := by rw [← hle2]; exact hle
          clear hall hp hml hle hle2
          go_wp2
          go_roundw
          case rel => exact ⟨d + 1, s', s'.next, NA, nc, rfl, HALL.out, HOPE.out, HNXT.out⟩
          case measure =>
            rw [HMR.out, HML.out]
            have e1 : lenOf (.slice NA s'.next.length nc) = s'.next.length := rfl
            have e2 : lenOf (Value.slice LA layer.length lc) = layer.length := rfl
            rw [e1, e2, if_neg (show ¬ layer.length = 0 by have := HLEN.out; omega)]
            split <;> omega
    · obtain rfl : layer = [] := by cases layer with
        | nil => rfl
        | cons x l => simp at hpos
      have hbfs := Lib.hid HIN.out.end_
      have c5 : wr.cell? ⟨w.heap.size + 4, 0, none⟩ = some (.map (some (w.heap.size + 2))) := (HO.out.hp.at_ 2 rfl).cell 0
      have c6 : wr.cell? ⟨w.heap.size + 4, 1, none⟩ = some (.map (some (w.heap.size + 3))) := (HO.out.hp.at_ 2 rfl).cell 1
      have d0 : wr.cell? ⟨w.heap.size + 1, 0, none⟩ = some (.map none) := (HO.out.hp.at_ 1 rfl).cell 0
      have d1 : wr.cell? ⟨w.heap.size + 1, 1, none⟩ = some (.map none) := (HO.out.hp.at_ 1 rfl).cell 1
      have f0 := (HO.out.hp.at_ 1 rfl).frozen 0
      have f1 := (HO.out.hp.at_ 1 rfl).frozen 1
      go_wp2
      refine bodyPost_ret (v := .agg #[.map (some (w.heap.size + 2)), .map (some (w.heap.size + 3))]) (by simp [results, Tryd.results43, go_sem, d0, d1]) rfl ⟨s, rfl, hbfs.out, ?_, ?_, ?_⟩
      · exact (HO.out.m1.set (by omega) _).set (by omega) _
      · exact (HO.out.m2.set (by omega) _).set (by omega) _
      · exact bw_set (bw_set HO.out.hp.below (by omega) _) (by omega) _
end Go.Proofs.YtfickhncbahekaaDoor
