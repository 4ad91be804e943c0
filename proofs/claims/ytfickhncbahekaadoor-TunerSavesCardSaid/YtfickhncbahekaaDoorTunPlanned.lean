/- The law's planned. Conditions: the task is right, and all its notes can be reached. -/
import Derived.Test.YtfickhncbahekaaDoorTunLaw
import Derived.Test.YtfickhncbahekaaDoorNsetD
import Derived.Test.YtfickhncbahekaaDoorTunCol
import Derived.Deep.DeepCutAuto
import Derived.Deep.OwnRows
namespace Go.Proofs.YtfickhncbahekaaDoor
open Go.RowKit Go.Deep

abbrev bv : Bool → Value := fun b => .bool b
/-- Which notes are needed so far. -/
def ndB (L : List (Int × Int)) (n : Nat) : Bool := decide ((n : Int) ∈ L.map (·.2))
def ndL (L : List (Int × Int)) : List Bool := (List.range 128).map (ndB L)
theorem ndL_nil : ndL [] = List.replicate 128 false := by decide +kernel
theorem ndL_len (L : List (Int × Int)) : (ndL L).length = 128 := by unfold ndL; simp
theorem ndL_get (L : List (Int × Int)) {k : Nat} (h : k < 128) : ((ndL L).map bv)[k]? = some (.bool (ndB L k)) := by
  unfold ndL
  simp [List.getElem?_map, List.getElem?_range h, bv]
theorem ndL_add (L : List (Int × Int)) (m : Int) (k : Nat) : ((ndL L).map bv).set k (.bool true) = (ndL (L ++ [(m, (k : Int))])).map bv := by
  refine List.ext_getElem (by rw [List.length_set, List.length_map, List.length_map, ndL_len, ndL_len]) fun i h1 h2 => ?_
  rw [List.length_map, ndL_len] at h2
  rw [List.getElem_set]
  have e2 : ((ndL (L ++ [(m, (k : Int))])).map bv)[i]'(by rw [List.length_map, ndL_len]; exact h2) = .bool (ndB (L ++ [(m, (k : Int))]) i) := by
    have := ndL_get (L ++ [(m, (k : Int))]) h2
    rw [List.getElem?_eq_getElem (by rw [List.length_map, ndL_len]; exact h2)] at this
    exact Option.some.inj this
  rw [e2]
  by_cases q : k = i
  · rw [if_pos q]
    subst q
    congr 1
    unfold ndB
    simp
  · rw [if_neg q]
    have e1 : ((ndL L).map bv)[i]'(by rw [List.length_map, ndL_len]; exact h2) = .bool (ndB L i) := by
      have := ndL_get L h2
      rw [List.getElem?_eq_getElem (by rw [List.length_map, ndL_len]; exact h2)] at this
      exact Option.some.inj this
    rw [e1]
    congr 1
    unfold ndB
    simp only [List.map_append, List.map_cons, List.map_nil, List.mem_append, List.mem_singleton]
    rw [decide_eq_decide]
    have : ¬ ((i : Int) = (k : Int)) := by omega
    simp [this]
/-- From where each needed note is tuned. -/
structure FrL (L : List (Int × Int)) (F : List Int) : Prop where
  len : F.length = 128
  at_ : ∀ x ∈ L, dz F x.2 = x.1
theorem FrL.nil : FrL [] (List.replicate 128 0) := ⟨by simp, fun _ h => absurd h List.not_mem_nil⟩
theorem FrL.add {L : List (Int × Int)} {F : List Int} (h : FrL L F) {m : Int} {k : Nat} (hk : k < 128) (hn : (k : Int) ∉ L.map (·.2)) (hL : ∀ x ∈ L, isN x.2) : FrL (L ++ [(m, (k : Int))]) (F.set k m) where
  len := by rw [List.length_set]; exact h.len
  at_ := fun x hx => by
    have hs := fun (y : Int) (hy : isN y) => dz_set F (k : Int) y m (by unfold isN; omega) hy h.len
    rw [Int.toNat_natCast] at hs
    rcases List.mem_append.1 hx with hx | hx
    · rw [hs x.2 (hL x hx), if_neg (fun e => hn (by rw [← e]; exact List.mem_map_of_mem hx))]
      exact h.at_ x hx
    · rw [List.mem_singleton] at hx
      subst hx
      rw [hs _ (by unfold isN; dsimp only; omega), if_pos rfl]
/-- The memory of planned. -/
abbrev PlM (w : World) (f s1 s2 lo hi : Int) (D : List Int) (g gF gN : Nat) (F : List Int) (L : List (Int × Int)) (W : World) : Prop :=
  Hp w [(w.heap.size, 43, tkcs f s1 s2 lo hi), (w.heap.size + 1, 25, [.int .i64 0, .slice none 0 0]), (g, 3, D.map i64v), (gF, 3, F.map i64v), (gN, 4, (ndL L).map bv)] W
/-- The list of the notes, and the memory. -/
structure PlN (w : World) (f s1 s2 lo hi : Int) (D : List Int) (g gF gN : Nat) (F : List Int) (L : List (Int × Int)) (base : Nat) (LA : Option Addr) (ln lc : Nat) (l : List Int) (W : World) : Prop where
  m : PlM w f s1 s2 lo hi D g gF gN F L W
  o : W.ownsRow base 3 1 (.slice LA ln lc) ln (l.map i64v)
  b : base ≤ W.heap.size
  lF : gF < base
  lN : gN < base
section
variable {w : World} {f s1 s2 lo hi : Int} {D : List Int} {g gF gN : Nat} {F : List Int} {L : List (Int × Int)} {base : Nat} {LA : Option Addr} {ln lc : Nat} {l : List Int} {W W' : World}
theorem PlN.step (h : PlN w f s1 s2 lo hi D g gF gN F L base LA ln lc l W) (hb : Below W.heap.size W W') : PlN w f s1 s2 lo hi D g gF gN F L base LA ln lc l W' :=
  ⟨h.m.step hb, own_below h.o hb, Nat.le_trans h.b hb.size, h.lF, h.lN⟩
theorem PlN.putN (h : PlN w f s1 s2 lo hi D g gF gN F L base LA ln lc l W) (m : Int) (k : Nat) : PlN w f s1 s2 lo hi D g gF gN F (L ++ [(m, (k : Int))]) base LA ln lc l (W.setCell ⟨gN, k, none⟩ (.bool true)) :=
  ⟨by
    have := h.m.put 4 rfl k (.bool true)
    simp only [List.set_cons_succ, List.set_cons_zero] at this
    rw [ndL_add L m k] at this
    exact this, own_far h.o h.lN, by simpa using h.b, h.lF, h.lN⟩
theorem PlN.putF (h : PlN w f s1 s2 lo hi D g gF gN F L base LA ln lc l W) (m : Int) (k : Nat) : PlN w f s1 s2 lo hi D g gF gN (F.set k m) L base LA ln lc l (W.setCell ⟨gF, k, none⟩ (.int .i64 m)) :=
  ⟨by
    have := h.m.put 3 rfl k (.int .i64 m)
    simp only [List.set_cons_succ, List.set_cons_zero] at this
    rw [show (F.map i64v).set k (.int .i64 m) = (F.set k m).map i64v by rw [List.map_set]] at this
    exact this, own_far h.o h.lF, by simpa using h.b, h.lF, h.lN⟩
end
/-- The greatest distance so far. -/
def Most (D : List Int) (L : List (Int × Int)) (M : Int) : Prop := 0 ≤ M ∧ M ≤ 127 ∧ ∀ x ∈ L, dz D x.2 ≤ M
def PlO (w : World) (f s1 s2 lo hi : Int) (D : List Int) (g gF gN base : Nat) (LA : Option Addr) (ln lc : Nat) (l : List Int) (u v : Value) (W : World) : Prop :=
  ∃ (i : Nat) (M : Int) (L : List (Int × Int)) (F : List Int), u = .int .i64 M ∧ v = .int .i64 (i : Int) ∧ i ≤ ln ∧ PlInv lo hi f l (l.take i) none L ∧ FrL L F ∧ Most D L M ∧ PlN w f s1 s2 lo hi D g gF gN F L base LA ln lc l W
def PlI (w : World) (f s1 s2 lo hi : Int) (D : List Int) (g gF gN base : Nat) (LA : Option Addr) (ln lc : Nat) (l : List Int) (i : Nat) (u v : Value) (W : World) : Prop :=
  ∃ (n : Int) (d : Nat) (M : Int) (L : List (Int × Int)) (F : List Int), u = .int .i64 M ∧ v = .int .i64 n ∧ Ds lo hi f n d ∧ PlInv lo hi f l (l.take i) (some n) L ∧ FrL L F ∧ Most D L M ∧ PlN w f s1 s2 lo hi D g gF gN F L base LA ln lc l W
theorem PlInv.isN {lo hi f : Int} {l pre : List Int} {cur : Option Int} {L : List (Int × Int)} (h : PlInv lo hi f l pre cur L) (h0 : 0 ≤ lo) (h1 : hi ≤ 127) (hf : lo ≤ f ∧ f ≤ hi) : ∀ x ∈ L, isN x.2 := fun x hx => by
  obtain ⟨d, hd⟩ := h.fr x hx
  have := hd.1.1.range hf
  unfold Go.Proofs.YtfickhncbahekaaDoor.isN
  omega
/-- What planned keeps when it collects. -/
abbrev PlC (w : World) (f s1 s2 lo hi : Int) (D : List Int) (g gF gN : Nat) (F : List Int) (L : List (Int × Int)) (O : Nat) (RA : Option Addr) (rn rc : Nat) (W : World) : Prop :=
  Hp w [(w.heap.size, 43, tkcs f s1 s2 lo hi), (w.heap.size + 1, 25, [.int .i64 0, .slice none 0 0]), (g, 3, D.map i64v), (gF, 3, F.map i64v), (gN, 4, (ndL L).map bv), (O, 25, [.int .i64 f, .slice RA rn rc])] W
def PlR (w : World) (f s1 s2 lo hi : Int) (D : List Int) (g gF gN : Nat) (F : List Int) (L : List (Int × Int)) (O : Nat) (M : Int) (u : Value) (W : World) : Prop :=
  ∃ (k : Int) (R : List (Int × Int)) (RA : Option Addr) (rc : Nat), u = .int .i64 k ∧ 1 ≤ k ∧ k ≤ M + 1 ∧ Col lo hi f D L R k lo ∧ PlC w f s1 s2 lo hi D g gF gN F L O RA R.length rc W ∧ W.ownsRow (O + 1) 27 2 (.slice RA R.length rc) R.length (pcs R) ∧ O + 1 ≤ W.heap.size
def PlQ (w : World) (f s1 s2 lo hi : Int) (D : List Int) (g gF gN : Nat) (F : List Int) (L : List (Int × Int)) (O : Nat) (k : Int) (u : Value) (W : World) : Prop :=
  ∃ (n : Int) (R : List (Int × Int)) (RA : Option Addr) (rc : Nat), u = .int .i64 n ∧ lo ≤ n ∧ n ≤ hi + 1 ∧ Col lo hi f D L R k n ∧ PlC w f s1 s2 lo hi D g gF gN F L O RA R.length rc W ∧ W.ownsRow (O + 1) 27 2 (.slice RA R.length rc) R.length (pcs R) ∧ O + 1 ≤ W.heap.size
theorem Hp.add {w W : World} {A : List (Nat × TypeId × List Value)} (h : Hp w A W) {g : Nat} {t : TypeId} {cs : List Value} (hb : Blk W g t cs) (hg : w.heap.size ≤ g) (hn : ∀ p ∈ A, p.1 ≠ g) : Hp w (A ++ [(g, t, cs)]) W :=
  ⟨h.below, fun p hp => by
    rcases List.mem_append.1 hp with hp | hp
    · exact h.blk p hp
    · rw [List.mem_singleton] at hp; subst hp; exact ⟨hb, hg⟩, List.pairwise_append.2 ⟨h.apart, List.pairwise_singleton _ _, fun p hp q hq => by rw [List.mem_singleton] at hq; subst hq; exact hn p hp⟩⟩
theorem Col.len {lo hi f : Int} {D : List Int} {L R : List (Int × Int)} {k n : Int} (hL : Lok lo hi f D L) (h0 : 0 ≤ lo) (h1 : hi ≤ 127) (h : Col lo hi f D L R k n) : R.length ≤ 128 := by
  have hnd : (R.map (·.2)).Nodup := by
    refine List.pairwise_map.2 (h.pw.imp_of_mem fun {a b} ha hb hab e => ?_)
    obtain ⟨d1, _, e2⟩ := hL.dz a (h.lt a ha).1
    obtain ⟨d2, _, e4⟩ := hL.dz b (h.lt b hb).1
    have := hab _ _ e2 e4
    rw [e] at e2 this
    have := e2.unique e4
    omega
  have := nodup_len 128 (R.map (·.2)) hnd (fun x hx => by
    obtain ⟨y, hy, rfl⟩ := List.mem_map.1 hx
    have := hL.rg y (h.lt y hy).1
    omega)
  rwa [List.length_map] at this

set_option maxRecDepth 1000000 in
set_option maxHeartbeats 16000000 in
theorem lplanned_any (f : Int) (s : Nat × Nat) (lo hi : Int) (w : World) (hs : NOk s) (h0 : 0 ≤ lo) (h1 : hi ≤ 127) (hf : lo ≤ f ∧ f ≤ hi) (hr : ∀ n ∈ listN s, ∃ d, Ds lo hi f n d) :
    Calls Tryd.prog 37 #[tv f s lo hi] w fun e w' => ∃ (R : List (Int × Int)) (RA : Option Addr) (rc : Nat), e = .returned (.agg #[.int .i64 f, .slice RA R.length rc]) ∧ Planned lo hi f (listN s) R ∧ w'.ownsRow w.heap.size 27 2 (.slice RA R.length rc) R.length (pcs R) ∧ Below w.heap.size w w' := by
  have hmk : ∀ X, (Instr.makeSlice 46 (.int .i64 128) (.int .i64 128)).run Tryd.prog X = .ok (.slice (some ⟨X.heap.size, 0, none⟩) 128 128) (X.alloc (.cells ((List.replicate 128 (0 : Int)).map i64v).toArray 3)) := fun X => by
    have := run_make_row' (P := Tryd.prog) 46 3 (.int .i64 0) 8 Tryd.underlying46 infoIntT rfl .i64 .i64 128 (by omega) (by omega) X
    rw [made128] at this
    exact this
  have hmb : ∀ X, (Instr.makeSlice 117 (.int .i64 128) (.int .i64 128)).run Tryd.prog X = .ok (.slice (some ⟨X.heap.size, 0, none⟩) 128 128) (X.alloc (.cells ((ndL []).map bv).toArray 4)) := fun X => by
    have := run_make_row' (P := Tryd.prog) 117 4 (.bool false) 1 Tryd.underlying117 (by kernel_rfl) rfl .i64 .i64 128 (by omega) (by omega) X
    rw [show madeCells #[.bool false] 128 = ((ndL []).map bv).toArray by kernel_rfl] at this
    exact this
  obtain ⟨F0, hF0⟩ : ∃ F0, F0 = List.replicate 128 (0 : Int) := ⟨_, rfl⟩
  rw [← hF0] at hmk
  have HF0 := Lib.hid (show FrL [] F0 by rw [hF0]; exact FrL.nil)
  obtain ⟨N0, hN0⟩ : ∃ N0, N0 = (ndL []).map bv := ⟨_, rfl⟩
  rw [← hN0] at hmb
  have HN0 := Lib.hid hN0
  have HAW := Lib.hid (fun W => away_any f s lo hi W h0 h1 hf.1 hf.2)
  have HBF := Lib.hid (fun D g n e0 W ha hn hg => before_any f s lo hi D g n e0 W h0 h1 hf ha hn hg)
  have HL := Lib.hid (fun W => refList_any s W hs)
  have HR := Lib.hid hr
  obtain ⟨s1, s2⟩ := s
  unfold tv at HAW HBF ⊢
  unfold nv at HL
  dsimp only at HAW HBF HL ⊢
  have hm0 := ((Hp.start w).new 43 (tkcs f (s1 : Int) (s2 : Int) lo hi)).new 25 [.int .i64 0, .slice none 0 0]
  simp only [World.size_alloc, List.nil_append, List.cons_append] at hm0
  have HM := Lib.hid hm0
  clear hm0 hF0 hN0 hr hs
  go_enter Tryd.func37, Tryd.ntmps37
  go_wp2_with fail
  refine (HAW.out _).mono ?_
  rintro e w1 ⟨g, D, rfl, had, hgb, hgs, hb1⟩
  simp only [World.size_alloc] at hgs
  have hm1 := ((((HM.out.step hb1).add hgb (by omega) (fun p hp => by
    simp only [List.mem_cons, List.not_mem_nil, or_false] at hp
    rcases hp with rfl | rfl <;> (dsimp only; omega))).new 3 (F0.map i64v)).new 4 N0)
  simp only [World.size_alloc, List.nil_append, List.cons_append] at hm1
  have HM1 := Lib.hid hm1
  have HAD := Lib.hid had
  have k1 : ((w1.alloc (.cells (F0.map i64v).toArray 3)).alloc (.cells N0.toArray 4)).cell? ⟨w.heap.size, 1, none⟩ = some (.int .u64 (s1 : Int)) := (hm1.at_ 0 rfl).cell 1
  have k2 : ((w1.alloc (.cells (F0.map i64v).toArray 3)).alloc (.cells N0.toArray 4)).cell? ⟨w.heap.size, 2, none⟩ = some (.int .u64 (s2 : Int)) := (hm1.at_ 0 rfl).cell 2
  clear had hgb hb1 hm1
  go_wp2_with fail
  refine (HL.out _).mono ?_
  rintro e w2 ⟨LA, lc, rfl, hown, hb2⟩
  have hm2 := HM1.out.step hb2
  have hz2 := hb2.size
  simp only [World.size_alloc] at hz2 hown
  obtain ⟨l, hl⟩ : ∃ l, l = listN (s1, s2) := ⟨_, rfl⟩
  rw [← hl] at hown ⊢
  rw [← hl] at HR
  have hll : l.length ≤ 128 := by
    have := listK_len (s1, s2) 128
    rw [show listK (s1, s2) 128 = listN (s1, s2) from rfl, ← hl] at this
    exact this
  obtain ⟨ln, hln⟩ : ∃ ln, ln = l.length := ⟨_, rfl⟩
  rw [← hln] at hown hll ⊢
  have HLN := Lib.hid hln
  have HL2 := Lib.hid hl
  rw [HN0.out] at hm2
  have hpn : PlN w f s1 s2 lo hi D g w1.heap.size (w1.heap.size + 1) F0 [] (w1.heap.size + 2) LA ln lc l w2 := ⟨hm2, hown, hz2, by omega, by omega⟩
  have HPN := Lib.hid hpn
  clear hown hb2 hm2 hl hln hpn k1 k2
  go_wp2_with fail
  go_loopw [6, 20] (fun u v W => PlO w f s1 s2 lo hi D g w1.heap.size (w1.heap.size + 1) (w1.heap.size + 2) LA ln lc l u v W) (fun _ v _ => ln - (intOf v).toNat)
  case atStart => exact ⟨0, 0, [], F0, rfl, rfl, by omega, PlInv.start, HF0.out, ⟨by omega, by omega, fun _ h => absurd h List.not_mem_nil⟩, HPN.out⟩
  case round =>
    obtain ⟨i, M, L, F, rfl, rfl, hi', hinv, hfr, hms, hpn⟩ := hrel
    have HINV := Lib.hid hinv
    have HFR := Lib.hid hfr
    have HMS := Lib.hid hms
    have HP := Lib.hid hpn
    clear hinv hfr hms
    by_cases hil : i < ln
    · obtain ⟨b, off, rfl, hbl, hcs⟩ := (Rd.of_own hpn.o HLN.out).at_ (by rw [← HLN.out]; omega)
      have hx0 := hcs i (by rw [← HLN.out]; omega)
      obtain ⟨n0, hn0⟩ : ∃ n, n = l[i]'(by rw [← HLN.out]; omega) := ⟨_, rfl⟩
      rw [← hn0] at hx0
      have hx : wr.cell? ⟨b, off + i, none⟩ = some (.int .i64 n0) := hx0
      have hmem : n0 ∈ l := by rw [hn0]; exact List.getElem_mem _
      obtain ⟨d0, hd0⟩ := HR.out n0 hmem
      have HTK := Lib.hid (show l.take (i + 1) = l.take i ++ [n0] by rw [List.take_add_one, List.getElem?_eq_getElem (by rw [← HLN.out]; omega), ← hn0]; rfl)
      have HIN := Lib.hid (HINV.out.take hmem hd0)
      have HD0 := Lib.hid hd0
      clear hpn hcs hx0 hn0 hd0
      go_wp2_with fail
      go_loopw [6, 8] (fun u v W => PlI w f s1 s2 lo hi D g w1.heap.size (w1.heap.size + 1) (w1.heap.size + 2) (some ⟨b, off, none⟩) ln lc l (i + 1) u v W) (fun _ v _ => (dz D (intOf v)).toNat)
      case atStart => exact ⟨n0, d0, M, L, F, rfl, rfl, HD0.out, by rw [HTK.out]; exact HIN.out, HFR.out, HMS.out, HP.out⟩
      case round =>
        clear hx
        obtain ⟨n, d, M2, L2, F2, rfl, rfl, hds, hinv2, hfr2, hms2, hpn2⟩ := hrel
        have hrg := hds.1.range hf
        obtain ⟨k, rfl⟩ : ∃ k : Nat, n = k := ⟨n.toNat, by omega⟩
        have hk : k < 128 := by omega
        have c0 : wr.cell? ⟨w.heap.size, 0, none⟩ = some (.int .i64 f) := (hpn2.m.at_ 0 rfl).cell 0
        have HI2 := Lib.hid hinv2
        have HF2 := Lib.hid hfr2
        have HM2 := Lib.hid hms2
        have HP2 := Lib.hid hpn2
        have HDS := Lib.hid hds
        by_cases hnf : (k : Int) = f
        · have hq : ((k : Int) != f) = false := by simp [hnf]
          have HST := Lib.hid (hinv2.stop (.inl hnf))
          clear hnf hinv2 hfr2 hms2 hpn2 hds
          go_wp2
          go_roundw
          case rel => exact ⟨i + 1, M2, L2, F2, rfl, by go_num, by omega, HST.out, HF2.out, HM2.out, HP2.out⟩
          case measure => simp [intOf]; omega
        · have hq : ((k : Int) != f) = true := by simp [hnf]
          have hk0 : (0 : Int) ≤ (k : Int) := by omega
          have hk1 : (k : Int) < 128 := by omega
          have c1 : wr.cell? ⟨w1.heap.size + 1, k, none⟩ = some (.bool (ndB L2 k)) := by rw [(hpn2.m.at_ 4 rfl).cell k]; exact ndL_get L2 hk
          cases hnd : ndB L2 k
          · rw [hnd] at c1
            have hnm : (k : Int) ∉ L2.map (·.2) := of_decide_eq_false hnd
            obtain ⟨e0, rfl⟩ : ∃ e0, d = e0 + 1 := by
              cases d with
              | zero => exact absurd (ds_zero.1 hds) hnf
              | succ e => exact ⟨e, rfl⟩
            obtain ⟨m, hm⟩ := hds.has_fr
            have hdk : dz D (k : Int) = ((e0 + 1 : Nat) : Int) := (HAD.out.aw k (e0 + 1) (by unfold isN; omega)).2 hds
            have hdl := HAD.out.le k (by unfold isN; omega)
            have f1 := (hpn2.m.at_ 4 rfl).frozen k
            have hpn3 := hpn2.putN m k
            obtain ⟨W3, hW3⟩ : ∃ W3, W3 = wr.setCell ⟨w1.heap.size + 1, k, none⟩ (.bool true) := ⟨_, rfl⟩
            rw [← hW3] at hpn3
            obtain ⟨x, hx⟩ : ∃ x, x = dz D (k : Int) := ⟨_, rfl⟩
            have c2 : W3.cell? ⟨g, k, none⟩ = some (.int .i64 x) := by rw [(hpn3.m.at_ 2 rfl).cell k, hx]; exact dget HAD.out.len hk
            have c3 : W3.cell? ⟨w.heap.size, 0, none⟩ = some (.int .i64 f) := (hpn3.m.at_ 0 rfl).cell 0
            have c4 : W3.cell? ⟨w.heap.size, 1, none⟩ = some (.int .u64 (s1 : Int)) := (hpn3.m.at_ 0 rfl).cell 1
            have c5 : W3.cell? ⟨w.heap.size, 2, none⟩ = some (.int .u64 (s2 : Int)) := (hpn3.m.at_ 0 rfl).cell 2
            have c6 : W3.cell? ⟨w.heap.size, 3, none⟩ = some (.int .i64 lo) := (hpn3.m.at_ 0 rfl).cell 3
            have c7 : W3.cell? ⟨w.heap.size, 4, none⟩ = some (.int .i64 hi) := (hpn3.m.at_ 0 rfl).cell 4
            have HB := Lib.hid (HBF.out D g k e0 W3 HAD.out hds (hpn3.m.at_ 2 rfl))
            have HPN3 := Lib.hid hpn3
            have HADD := Lib.hid (hinv2.add hnf hnm hm)
            have HM' := Lib.hid hm
            have HFA := Lib.hid (hfr2.add (m := m) hk hnm (hinv2.isN h0 h1 hf))
            obtain ⟨M3, hM3⟩ : ∃ M3, M3 = max M2 x := ⟨_, rfl⟩
            have HMST := Lib.hid (show Most D (L2 ++ [(m, (k : Int))]) M3 from ⟨by rw [hM3]; have := hms2.1; omega, by rw [hM3]; have := hms2.2.1; omega, fun y hy => by
              rw [hM3]
              rcases List.mem_append.1 hy with hy | hy
              · have := hms2.2.2 y hy; omega
              · rw [List.mem_singleton] at hy; subst hy; show dz D (k : Int) ≤ _; omega⟩)
            have HX := Lib.hid hx
            have HMX := Lib.hid hM3
            have HDK := Lib.hid hdk
            have HMD := Lib.hid (show (dz D m).toNat < (dz D (k : Int)).toNat by
              have hmr := hm.2.1.1.range hf
              rw [hdk, (HAD.out.aw m e0 (by unfold isN; omega)).2 hm.2.1]
              omega)
            rw [hW3] at c2 c3 c4 c5 c6 c7
            have HW3 := Lib.hid hW3
            clear hinv2 hfr2 hms2 hpn2 hds hnd hnm hm hdk hdl hpn3 hx hM3 hW3
            go_wp2_with fail
            rw [← HW3.out]
            refine HB.out.mono ?_
            rintro e w4 ⟨m', rfl, hm', hb4⟩
            obtain rfl : m' = m := (hm'.unique HM'.out).1
            have hpn4 := HPN3.out.step hb4
            have c8 : w4.cell? ⟨w1.heap.size, k, none⟩ = some (.int .i64 (dz F2 k)) := by rw [(hpn4.m.at_ 3 rfl).cell k]; exact dget HF2.out.len hk
            have f8 := (hpn4.m.at_ 3 rfl).frozen k
            have HPN5 := Lib.hid (hpn4.putF m' k)
            clear c0 c1 c2 c3 c4 c5 c6 c7 f1 hm' hb4 hpn4
            go_wp2
            go_roundw
            case rel =>
              exact ⟨m', e0, M3, L2 ++ [(m', (k : Int))], F2.set k m', by rw [HMX.out], rfl, HM'.out.2.1, HADD.out, HFA.out, HMST.out, HPN5.out⟩
            case measure => exact HMD.out
          · rw [hnd] at c1
            have HST := Lib.hid (hinv2.stop (.inr (of_decide_eq_true hnd)))
            clear hnf hinv2 hfr2 hms2 hpn2 hds hnd
            go_wp2
            go_roundw
            case rel => exact ⟨i + 1, M2, L2, F2, rfl, by go_num, by omega, HST.out, HF2.out, HM2.out, HP2.out⟩
            case measure => simp [intOf]; omega
    · obtain rfl : i = ln := by omega
      have hinv := HINV.out
      rw [show l.take i = l from List.take_of_length_le (by rw [← HLN.out]; exact Nat.le_refl _)] at hinv
      have hLok := Lok.of h0 h1 hf HAD.out hinv.fr
      have hun : ∀ x ∈ L, ∀ y ∈ L, x.2 = y.2 → x = y := fun x hx y hy e => by
        obtain ⟨d, hd⟩ := hinv.fr x hx
        obtain ⟨d', hd'⟩ := hinv.fr y hy
        rw [e] at hd
        exact Prod.ext (hd.unique hd').1 e
      have HLK := Lib.hid hLok
      have HUN := Lib.hid hun
      have HIV := Lib.hid hinv
      have hM0 := HMS.out.1
      have hM1 := HMS.out.2.1
      obtain ⟨W5, rfl⟩ : ∃ W5, W5 = wr := ⟨_, rfl⟩
      have c0 : W5.cell? ⟨w.heap.size, 0, none⟩ = some (.int .i64 f) := (hpn.m.at_ 0 rfl).cell 0
      have hm6 := HP.out.m.new 25 [.int .i64 f, .slice none 0 0]
      simp only [List.nil_append, List.cons_append] at hm6
      have HM6 := Lib.hid hm6
      obtain ⟨i0, hi0, hz0, hz1, hz2⟩ := info_parts infoStepT
      have HI0 := Lib.hid hi0
      have HZ0 := Lib.hid hz0
      have HZ1 := Lib.hid hz1
      have HZ2 := Lib.hid hz2
      have hw5 : w.heap.size + 1 < W5.heap.size := (HP.out.m.at_ 1 rfl).lt
      have hF5 : w1.heap.size + 1 < W5.heap.size := Nat.lt_of_lt_of_le HP.out.lN HP.out.b
      have hg5 : g < W5.heap.size := (HP.out.m.at_ 2 rfl).lt
      clear hpn hinv hLok hun hm6 hi0 hz0 hz1 hz2
      go_wp2_with fail
      clear c0
      go_loopw [10] (fun u W => PlR w f s1 s2 lo hi D g w1.heap.size (w1.heap.size + 1) F L W5.heap.size M u W) (fun u _ => (M + 1 - intOf u).toNat)
      case atStart => exact ⟨1, [], none, 0, rfl, by decide, by omega, Col.start HLK.out, HM6.out, World.ownsRow_nil _ _ _ _, by rw [World.size_alloc]; exact Nat.le_refl _⟩
      case round =>
        obtain ⟨k, R, RA, rc, rfl, hk1, hkM, hcol, hpc, hown, hsz⟩ := hrel
        have HCOL := Lib.hid hcol
        have HPC := Lib.hid hpc
        have HOW := Lib.hid hown
        by_cases hk : k ≤ M
        · have c3 : wr.cell? ⟨w.heap.size, 3, none⟩ = some (.int .i64 lo) := (hpc.at_ 0 rfl).cell 3
          clear hcol hpc hown
          go_wp2_with fail
          clear c3
          go_loopw [11] (fun u W => PlQ w f s1 s2 lo hi D g w1.heap.size (w1.heap.size + 1) F L W5.heap.size k u W) (fun u _ => (hi + 1 - intOf u).toNat)
          case atStart => exact ⟨lo, R, RA, rc, rfl, by omega, by omega, HCOL.out, HPC.out, HOW.out, hsz⟩
          case round =>
            obtain ⟨n, R2, RB, rc2, rfl, hn0, hn1, hcol2, hpc2, hown2, hsz2⟩ := hrel
            have c4 : wr.cell? ⟨w.heap.size, 4, none⟩ = some (.int .i64 hi) := (hpc2.at_ 0 rfl).cell 4
            have HC2 := Lib.hid hcol2
            have HP2 := Lib.hid hpc2
            have HO2 := Lib.hid hown2
            by_cases hnh : n ≤ hi
            · obtain ⟨nn, rfl⟩ : ∃ nn : Nat, n = nn := ⟨n.toNat, by omega⟩
              have hnl : nn < 128 := by omega
              have hnn0 : (0 : Int) ≤ (nn : Int) := by omega
              have hnn1 : (nn : Int) < 128 := by omega
              have c5 : wr.cell? ⟨w1.heap.size + 1, nn, none⟩ = some (.bool (ndB L nn)) := by rw [(hpc2.at_ 4 rfl).cell nn]; exact ndL_get L hnl
              obtain ⟨x, hx⟩ : ∃ x, x = dz D (nn : Int) := ⟨_, rfl⟩
              have c6 : wr.cell? ⟨g, nn, none⟩ = some (.int .i64 x) := by rw [(hpc2.at_ 2 rfl).cell nn, hx]; exact dget HAD.out.len hnl
              cases hnd : ndB L nn
              · rw [hnd] at c5
                have HSK := Lib.hid (hcol2.skip (fun e => by have := of_decide_eq_false hnd; exact this e.1))
                clear hcol2 hpc2 hown2 hnd hx
                go_wp2
                go_roundw
                case rel => exact ⟨(nn : Int) + 1, R2, RB, rc2, by go_num, by omega, by omega, HSK.out, HP2.out, HO2.out, hsz2⟩
                case measure => simp [intOf]; omega
              · rw [hnd] at c5
                by_cases hxk : x = k
                · obtain ⟨y, hy, hye⟩ := List.mem_map.1 (of_decide_eq_true hnd)
                  obtain ⟨m, y2⟩ := y
                  dsimp only at hye
                  subst hye
                  have hfm : dz F (nn : Int) = m := HFR.out.at_ _ hy
                  have HFM := Lib.hid hfm
                  have c7 : wr.cell? ⟨w1.heap.size, nn, none⟩ = some (.int .i64 m) := by rw [(hpc2.at_ 3 rfl).cell nn, ← hfm]; exact dget HFR.out.len hnl
                  have c8 : wr.cell? ⟨W5.heap.size, 1, none⟩ = some (.slice RB R2.length rc2) := (hpc2.at_ 5 rfl).cell 1
                  have HTK := Lib.hid (hcol2.take HLK.out HUN.out hy (by rw [← hx]; exact hxk))
                  have hrl := hcol2.len HLK.out h0 h1
                  obtain ⟨rn, hrn⟩ : ∃ rn, rn = R2.length := ⟨_, rfl⟩
                  have HRN := Lib.hid hrn
                  rw [← hrn] at c8 hrl HP2 HO2
                  subst hxk
                  clear hcol2 hpc2 hown2 hnd hx hy hfm hrn
                  go_wp2_with fail
                  refine wp_regionE' 11 (fun w' => w'.cell? ⟨W5.heap.size, 1, none⟩ = some (.slice RB rn rc2) ∧ w'.cell? ⟨w1.heap.size, nn, none⟩ = some (.int .i64 m)) 12 #[false, false, false, false, false, false, false, false, false, false, false, false] (by kernel_rfl) (by kernel_rfl) (by kernel_rfl) ?_
                  have hS : wr.drew.cell? ⟨W5.heap.size, 1, none⟩ = some (.slice RB rn rc2) ∧ wr.drew.cell? ⟨w1.heap.size, nn, none⟩ = some (.int .i64 m) := ⟨c8, c7⟩
                  refine wpAnyE_tk (i := 0) (v := ?_) #[true, false, false, false, false, false, false, false, false, false, false, false] (some 86) rfl rfl (by kernel_rfl) (by kernel_rfl) (by kernel_rfl) (by kernel_rfl) (by kernel_rfl) (fun _ _ _ h => h) (Or.inl ⟨by rfl, ?_⟩) hS ?_
                  rotate_left
                  · (intro w hSw; (try dsimp only at hSw); go_simp; all_goals with_reducible rfl)
                  simp only [Act.put]
                  refine wpAnyE_tk (i := 1) (v := ?_) #[true, true, false, false, false, false, false, false, false, false, false, false] (some 87) rfl rfl (by kernel_rfl) (by kernel_rfl) (by kernel_rfl) (by kernel_rfl) (by kernel_rfl) (fun _ _ _ h => h) (Or.inl ⟨by rfl, ?_⟩) hS ?_
                  rotate_left
                  · (intro w hSw; (try dsimp only at hSw); go_simp; all_goals with_reducible rfl)
                  simp only [Act.put]
                  refine wpAnyE_tk (i := 2) (v := ?_) #[true, true, true, false, false, false, false, false, false, false, false, false] (some 88) rfl rfl (by kernel_rfl) (by kernel_rfl) (by kernel_rfl) (by kernel_rfl) (by kernel_rfl) (fun _ _ _ h => h) (Or.inl ⟨by rfl, ?_⟩) hS ?_
                  rotate_left
                  · (intro w hSw; (try dsimp only at hSw); go_simp; all_goals with_reducible rfl)
                  simp only [Act.put]
                  refine wpAnyE_tk (i := 3) (v := ?_) #[true, true, true, true, false, false, false, false, false, false, false, false] (some 89) rfl rfl (by kernel_rfl) (by kernel_rfl) (by kernel_rfl) (by kernel_rfl) (by kernel_rfl) (fun _ _ _ h => h) (Or.inl ⟨by rfl, ?_⟩) hS ?_
                  rotate_left
                  · (intro w hSw; (try dsimp only at hSw); go_simp; all_goals with_reducible rfl)
                  simp only [Act.put]
                  refine wpAnyE_tk (i := 4) (v := ?_) #[true, true, true, true, true, false, false, false, false, false, false, false] (some 90) rfl rfl (by kernel_rfl) (by kernel_rfl) (by kernel_rfl) (by kernel_rfl) (by kernel_rfl) (fun _ _ _ h => h) (Or.inl ⟨by rfl, ?_⟩) hS ?_
                  rotate_left
                  · (intro w hSw; (try dsimp only at hSw); go_simp; all_goals with_reducible rfl)
                  simp only [Act.put]
                  refine wpAnyE_tk (i := 5) (v := ?_) #[true, true, true, true, true, true, false, false, false, false, false, false] (some 91) rfl rfl (by kernel_rfl) (by kernel_rfl) (by kernel_rfl) (by kernel_rfl) (by kernel_rfl) (fun _ _ _ h => h) (Or.inl ⟨by rfl, ?_⟩) hS ?_
                  rotate_left
                  · (intro w hSw; (try dsimp only at hSw); go_simp; all_goals with_reducible rfl)
                  simp only [Act.put]
                  refine wpAnyE_tk (i := 6) (v := ?_) #[true, true, true, true, true, true, true, false, false, false, false, false] (some 92) rfl rfl (by kernel_rfl) (by kernel_rfl) (by kernel_rfl) (by kernel_rfl) (by kernel_rfl) (fun _ _ _ h => h) (Or.inl ⟨by rfl, ?_⟩) hS ?_
                  rotate_left
                  · (intro w hSw; (try dsimp only at hSw); go_simp; all_goals with_reducible rfl)
                  simp only [Act.put]
                  refine wpAnyE_tk (i := 7) (v := ?_) #[true, true, true, true, true, true, true, true, false, false, false, false] (some 93) rfl rfl (by kernel_rfl) (by kernel_rfl) (by kernel_rfl) (by kernel_rfl) (by kernel_rfl) (fun _ _ _ h => h) (Or.inl ⟨by rfl, ?_⟩) hS ?_
                  rotate_left
                  · (intro w hSw; (try dsimp only at hSw); go_simp; all_goals with_reducible rfl)
                  simp only [Act.put]
                  refine wpAnyE_ready (rs := [8]) (by kernel_rfl) (by simp) ?_
                  refine AllE.cons' (o := _) #[true, true, true, true, true, true, true, true, true, false, false, false] rfl (by kernel_rfl) (fun K hK => ?_) AllE.nil
                  go_simp
                  have hp8 := (HP2.out.alloc (.cells #[.int .i64 m, .int .i64 (nn : Int)] 27)).drew
                  have ho8 := own_below (own_below HO2.out (bw_new (Below.refl _ _) (.cells #[.int .i64 m, .int .i64 (nn : Int)] 27))) (bw_drew (Below.refl _ _))
                  have hn8 : (wr.alloc (.cells #[.int .i64 m, .int .i64 (nn : Int)] 27)).drew.heap[wr.heap.size]? = some (.cells #[.int .i64 m, .int .i64 (nn : Int)] 27 (0, 0)) := heap_alloc_new wr _
                  have hs8 : (wr.alloc (.cells #[.int .i64 m, .int .i64 (nn : Int)] 27)).drew.heap.size = wr.heap.size + 1 := World.size_alloc _ _
                  obtain ⟨W8, hW8⟩ : ∃ W, W = (wr.alloc (Obj.cells #[.int .i64 m, .int .i64 (nn : Int)] 27)).drew := ⟨_, rfl⟩
                  rw [← hW8] at hp8 ho8 hn8 hs8 ⊢
                  have HP8 := Lib.hid hp8
                  have HO8 := Lib.hid ho8
                  have HN8 := Lib.hid hn8
                  have HS8 := Lib.hid hs8
                  have hc8 : W8.cell? ⟨W5.heap.size, 1, none⟩ = some (.slice RB rn rc2) ∧ W8.cell? ⟨w1.heap.size, nn, none⟩ = some (.int .i64 m) := ⟨(hp8.at_ 5 rfl).cell 1, by rw [(hp8.at_ 3 rfl).cell nn, ← HFM.out]; exact dget HFR.out.len hnl⟩
                  refine hK.out _ _ (fun _ => hc8) ?_
                  replace hS := hc8
                  clear hK K hW8 hp8 ho8 hn8 hs8 hc8 c5 c6 c7 c8
                  try simp only [Act.put]
                  refine wpAnyE_ready (rs := [9]) (by kernel_rfl) (by simp) ?_
                  refine AllE.cons' (o := _) #[true, true, true, true, true, true, true, true, true, true, false, false] rfl (by kernel_rfl) (fun K hK => ?_) AllE.nil
                  refine step_append_lies _ (by rfl) _ _ _ (by rfl) (W5.heap.size + 1) 27 i0 (.agg #[.int .i64 0, .int .i64 0]) 2 16 Tryd.underlying23 HI0.out HZ0.out HZ1.out HZ2.out rfl (by decide) (.slice RB rn rc2) rn _ (by rfl) HO8.out
                    ⟨wr.heap.size, 0, none⟩ 1 1 [.int .i64 m, .int .i64 (nn : Int)] (by rfl) (by rfl) (World.news_of_block (cs := #[.int .i64 m, .int .i64 (nn : Int)]) (t := 27) (fr := (0, 0)) HN8.out) (by simp [Value.oneCell']) (by decide) (by unfold maxLen; omega) (by omega) (by rw [HS8.out]; omega) W8.heap.size rfl ?_
                  intro g9 c9 W9 hown9 hgrow9 hat9 hlt9
                  have hgg := fun q e => (HO8.out.lt q e).1
                  have hp9 := HP8.out.grown hgrow9 (fun q e => by
                    have := hgg q e
                    refine ⟨by omega, fun y hy => ?_⟩
                    simp only [List.mem_cons, List.not_mem_nil, or_false] at hy
                    rcases hy with rfl | rfl | rfl | rfl | rfl | rfl <;> (dsimp only; omega))
                  have hs9 := hgrow9.size
                  have hc9 : W9.cell? ⟨W5.heap.size, 1, none⟩ = some (.slice RB rn rc2) ∧ W9.cell? ⟨w1.heap.size, nn, none⟩ = some (.int .i64 m) := ⟨(hp9.at_ 5 rfl).cell 1, by rw [(hp9.at_ 3 rfl).cell nn, ← HFM.out]; exact dget HFR.out.len hnl⟩
                  have HP9 := Lib.hid hp9
                  have HO9 := Lib.hid hown9
                  have f9 := (hp9.at_ 5 rfl).frozen 1
                  refine hK.out _ _ (fun _ => hc9) ?_
                  replace hS := hc9
                  clear hK K hown9 hgrow9 hat9 hlt9 hgg hp9 hc9
                  try simp only [Act.put]
                  refine wpAnyE_tk (i := 10) (v := ?_) #[true, true, true, true, true, true, true, true, true, true, true, false] (some 96) rfl rfl (by kernel_rfl) (by kernel_rfl) (by kernel_rfl) (by kernel_rfl) (by kernel_rfl) (fun _ _ _ h => h) (Or.inl ⟨by rfl, ?_⟩) hS ?_
                  rotate_left
                  · (intro w hSw; (try dsimp only at hSw); go_simp; all_goals with_reducible rfl)
                  simp only [Act.put]
                  refine wpAnyE_ready (rs := [11]) (by kernel_rfl) (by simp) ?_
                  refine AllE.cons' (o := _) #[true, true, true, true, true, true, true, true, true, true, true, true] rfl (by kernel_rfl) (fun K hK => ?_) AllE.nil
                  have hS1 := hS.1
                  go_simp
                  refine hK.out _ _ (fun h => absurd rfl h) ?_
                  clear hK K hS hS1
                  try simp only [Act.put]
                  refine wpAnyE_done (by kernel_rfl) ?_ _
                  have hp10 := HP9.out.put 5 rfl 1 (.slice (some ⟨g9, 0, none⟩) (rn + 1) c9)
                  simp only [List.set_cons_succ, List.set_cons_zero] at hp10
                  have ho10 := own_far (p := ⟨W5.heap.size, 1, none⟩) (u := .slice (some ⟨g9, 0, none⟩) (rn + 1) c9) HO9.out (by show W5.heap.size < W5.heap.size + 1; omega)
                  rw [pcs_snoc R2 (m, (nn : Int))] at ho10
                  have HP10 := Lib.hid hp10
                  have HO10 := Lib.hid ho10
                  have hsz10 : W5.heap.size + 1 ≤ W9.heap.size := by have := HS8.out; omega
                  clear hp10 ho10
                  go_wp2
                  go_roundw
                  case rel =>
                    have hlr : (R2 ++ [(m, (nn : Int))]).length = rn + 1 := by rw [List.length_append, ← HRN.out]; rfl
                    refine ⟨(nn : Int) + 1, R2 ++ [(m, (nn : Int))], some ⟨g9, 0, none⟩, c9, by go_num, by omega, by omega, HTK.out, ?_, ?_, by simpa using hsz10⟩
                    · rw [hlr]; exact HP10.out
                    · rw [hlr]; exact HO10.out
                  case measure => simp [intOf]; omega
                · have hq : (x == k) = false := by simp [hxk]
                  have HSK := Lib.hid (hcol2.skip (fun e => hxk (by rw [hx]; exact e.2)))
                  clear hcol2 hpc2 hown2 hnd hx hxk
                  go_wp2
                  go_roundw
                  case rel => exact ⟨(nn : Int) + 1, R2, RB, rc2, by go_num, by omega, by omega, HSK.out, HP2.out, HO2.out, hsz2⟩
                  case measure => simp [intOf]; omega
            · obtain rfl : n = hi + 1 := by omega
              have HROW := Lib.hid (hcol2.row HLK.out)
              clear hcol2 hpc2 hown2
              go_wp2
              go_roundw
              case rel => exact ⟨k + 1, R2, RB, rc2, by go_num, by omega, by omega, HROW.out, HP2.out, HO2.out, hsz2⟩
              case measure => simp [intOf]; omega
        · obtain rfl : k = M + 1 := by omega
          have hsame := hcol.done (fun x hx => by have := HMS.out.2.2 x hx; omega)
          have HPL := Lib.hid (HIV.out.planned2 hsame hcol.pw)
          have d0 : wr.cell? ⟨w.heap.size + 1, 0, none⟩ = some (.int .i64 0) := (hpc.at_ 1 rfl).cell 0
          have d1 : wr.cell? ⟨w.heap.size + 1, 1, none⟩ = some (.slice none 0 0) := (hpc.at_ 1 rfl).cell 1
          have e0 : wr.cell? ⟨W5.heap.size, 0, none⟩ = some (.int .i64 f) := (hpc.at_ 5 rfl).cell 0
          have e1 : wr.cell? ⟨W5.heap.size, 1, none⟩ = some (.slice RA R.length rc) := (hpc.at_ 5 rfl).cell 1
          have g0 := (hpc.at_ 1 rfl).frozen 0
          have g1 := (hpc.at_ 1 rfl).frozen 1
          clear hcol hpc hown hsame
          go_wp2
          refine bodyPost_ret (v := .agg #[.int .i64 f, .slice RA R.length rc]) (by simp [results, Tryd.results37, go_sem, d0, d1, g0, g1]) rfl ⟨R, RA, rc, rfl, by rw [← HL2.out]; exact HPL.out, ?_, bw_set (bw_set HPC.out.below (by omega) _) (by omega) _⟩
          exact own_low (own_far (own_far HOW.out (by show w.heap.size + 1 < W5.heap.size + 1; omega)) (by show w.heap.size + 1 < W5.heap.size + 1; omega)) (by omega)
end Go.Proofs.YtfickhncbahekaaDoor
