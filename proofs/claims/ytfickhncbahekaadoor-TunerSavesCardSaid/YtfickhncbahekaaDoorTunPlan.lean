/- Package tuner: Plan. Conditions: the words of the set are of 64 bits; the library's table reads as its text lays it. -/
import Derived.Test.YtfickhncbahekaaDoorTunTask
import Derived.Test.YtfickhncbahekaaDoorTunNeed
import Derived.Test.YtfickhncbahekaaDoorTunSortF
namespace Go.Proofs.YtfickhncbahekaaDoor
open Go.RowKit Go.Shelf

def boolV : Bool → Value := fun b => .bool b
/-- The notes that are needed so far. -/
def ndM (f : Int) (L : List (Int × Int)) : List (Int × Bool) := (f, true) :: L.map fun x => (x.2, true)
theorem ndM_get (f n : Int) (L : List (Int × Int)) : lkz n (ndM f L) = if n = f ∨ n ∈ L.map (·.2) then some true else none := by
  unfold ndM lkz
  by_cases h : n = f
  · rw [if_pos h, if_pos (.inl h)]
  · rw [if_neg h]
    have e : ∀ L : List (Int × Int), lkz n (L.map fun x => (x.2, true)) = if n ∈ L.map (·.2) then some true else none := by
      intro L
      induction L with
      | nil => simp [lkz]
      | cons x r ih =>
        rw [List.map_cons]
        unfold lkz
        by_cases q : n = x.2
        · rw [if_pos q, if_pos (by rw [List.map_cons, q]; exact List.mem_cons_self ..)]
        · rw [if_neg q, ih]
          by_cases k : n ∈ List.map (fun x => x.2) r
          · rw [if_pos k, if_pos (by rw [List.map_cons]; exact List.mem_cons_of_mem _ k)]
          · rw [if_neg k, if_neg (by rw [List.map_cons, List.mem_cons]; rintro (z | z); exact q z; exact k z)]
    rw [e]
    by_cases k : n ∈ L.map (·.2)
    · rw [if_pos k, if_pos (.inr k)]
    · rw [if_neg k, if_neg (by rintro (z | z); exact h z; exact k z)]
theorem look_bv {W : World} {b : Nat} {m : List (Int × Bool)} (h : MapC iK W b (ents boolV m)) (p : Int) :
    (Instr.lookup 105 (.map (some b)) (.int .i64 p) false).run Tryd.prog W = .ok (.bool ((lkz p m).getD false)) W := by
  have h2 := run_look iK Tryd.underlying105 (z := .bool false) (fun w => by first | exact Tryd.zeroValue4 w | kernel_rfl) h.mapB p false
  rw [ents_get] at h2
  have e1 : ((lkz p m).map boolV).getD (.bool false) = .bool ((lkz p m).getD false) := by cases lkz p m <;> rfl
  rw [e1] at h2
  exact h2
theorem infoStepT : (Tryd.prog.info? 27).map (fun i => (i.zero, i.size, i.bytes)) = some (some (.agg #[.int .i64 0, .int .i64 0]), 2, 16) := by kernel_rfl
/-- What the loops of Plan carry. -/
structure PlPack (w : World) (f s1 s2 lo hi : Int) (t : Se) (l : List Int) (MA : Option Addr) (mc m1 m2 g5 nm : Nat) (L : List (Int × Int)) (OA : Option Addr) (oc : Nat) (W : World) : Prop where
  hp : Hp w [(w.heap.size, 43, tkcs f s1 s2 lo hi), (w.heap.size + 1, 25, [.int .i64 0, .slice none 0 0]), (g5, 103, [.map (some m1), .map (some m2)])] W
  a : MapC iK W m1 (ents i64v t.away)
  r : MapC iK W m2 (ents i64v t.frm)
  n : MapC iK W nm (ents boolV (ndM f L))
  ml : W.ownsRow (nm + 1) 3 1 (.slice MA l.length mc) l.length (l.map i64v)
  o : W.ownsRow (nm + 1) 27 2 (.slice OA L.length oc) L.length (pcs L)
  tab : DTab W
  size : nm + 1 ≤ W.heap.size
section
variable {w W W' : World} {f s1 s2 lo hi : Int} {t : Se} {l : List Int} {MA : Option Addr} {mc m1 m2 g5 nm : Nat} {L : List (Int × Int)} {OA : Option Addr} {oc : Nat}
theorem PlPack.step (h : PlPack w f s1 s2 lo hi t l MA mc m1 m2 g5 nm L OA oc W) (hb : Below W.heap.size W W') : PlPack w f s1 s2 lo hi t l MA mc m1 m2 g5 nm L OA oc W' :=
  ⟨h.hp.step hb, h.a.step hb, h.r.step hb, h.n.step hb, own_below h.ml hb, own_below h.o hb, h.tab.below hb, Nat.le_trans h.size hb.size⟩
/-- A new needed note, and its step. -/
theorem PlPack.add {W1 W2 : World} {m n : Int} {ob : Obj} {g rc : Nat} (h : PlPack w f s1 s2 lo hi t l MA mc m1 m2 g5 nm L OA oc W) (h1 : m1 < nm) (h2 : m2 < nm) (h5 : g5 < nm) (hnb : w.heap.size + 2 ≤ nm) (hdb : 0 < w.heap.size)
    (hg1 : W.grownBy W1 (some nm)) (hm : MapC iK W1 nm (ents boolV (ndM f L) ++ [(n, boolV true)])) (hg2 : (W1.alloc ob).grownBy W2 (Value.slice OA L.length oc).ownBlock)
    (ho : W2.ownsRow (nm + 1) 27 2 (.slice (some ⟨g, 0, none⟩) (L.length + 1) rc) (L.length + 1) (pcs L ++ [.int .i64 m, .int .i64 n])) :
    PlPack w f s1 s2 lo hi t l MA mc m1 m2 g5 nm (L ++ [(m, n)]) (some ⟨g, 0, none⟩) rc W2 := by
  have hrow := fun q e => (h.o.lt q e).1
  have hp1 : Hp w [(w.heap.size, 43, tkcs f s1 s2 lo hi), (w.heap.size + 1, 25, [.int .i64 0, .slice none 0 0]), (g5, 103, [.map (some m1), .map (some m2)])] W1 := h.hp.grown hg1 (fun q e => by
    cases e
    refine ⟨by omega, fun p hp => ?_⟩
    simp only [List.mem_cons, List.not_mem_nil, or_false] at hp
    rcases hp with rfl | rfl | rfl <;> simp <;> omega)
  have hp2 := (hp1.alloc ob).grown hg2 (fun q e => by
    have := hrow q e
    refine ⟨by omega, fun p hp => ?_⟩
    simp only [List.mem_cons, List.not_mem_nil, or_false] at hp
    rcases hp with rfl | rfl | rfl <;> simp <;> omega)
  have hbl : Below w.heap.size W W2 := ((Below.refl w.heap.size W).grown hg1 h.hp.below.size (fun k e => by cases e; omega)).alloc (by have := hg1.size; have := h.hp.below.size; omega) ob |>.grown hg2 (by rw [World.size_alloc]; have := hg1.size; have := h.hp.below.size; omega) (fun k e => by have := hrow k e; omega)
  refine ⟨hp2, ?_, ?_, ?_, ?_, ?_, h.tab.low hbl hdb, ?_⟩
  · exact ((h.a.grown hg1 (fun e => by cases e; omega)).alloc ob).grown hg2 (fun e => by have := hrow _ e.symm; omega)
  · exact ((h.r.grown hg1 (fun e => by cases e; omega)).alloc ob).grown hg2 (fun e => by have := hrow _ e.symm; omega)
  · have e1 : ents boolV (ndM f L) ++ [(n, boolV true)] = ents boolV (ndM f (L ++ [(m, n)])) := by simp [ents, ndM]
    rw [e1] at hm
    exact (hm.alloc ob).grown hg2 (fun e => by have := hrow _ e.symm; omega)
  · exact own_grown (own_below (own_grown h.ml hg1 (fun g e e2 => by cases e2; have := (h.ml.lt _ e).1; omega)) (bw_new (Below.refl _ _) ob)) hg2 (fun q e e2 => own_apart h.ml h.o (by decide) q e e2)
  · rw [List.length_append, ← pcs_snoc]
    exact ho
  · have := hg1.size; have := hg2.size; rw [World.size_alloc] at this; have := h.size; omega
end
theorem nst_of : ∀ L : List (Int × Int), (∀ x ∈ L, isN x.1 ∧ isN x.2) → ∃ N : List NSt, N.map (·.1) = L
  | [], _ => ⟨[], rfl⟩
  | x :: r, h => by
    obtain ⟨N, e⟩ := nst_of r (fun y hy => h y (List.mem_cons_of_mem _ hy))
    exact ⟨⟨x, h x (List.mem_cons_self ..)⟩ :: N, by rw [List.map_cons, e]⟩
theorem SRd.set {w : World} {Bd : Nat} {A : Option Addr} {L : List (Int × Int)} (h : SRd w Bd A L) {q : Addr} (hq : ∀ p, A = some p → p.block ≠ q.block) (u : Value) : SRd (w.setCell q u) Bd A L := fun hl => by
  obtain ⟨b, off, hA, hb, hc⟩ := h hl
  refine ⟨b, off, hA, hb, fun i hi => (hc i hi).keep fun o => ?_⟩
  exact World.cell?_setCell_far w q ⟨b, o, none⟩ u (fun e => hq _ hA e.symm)
/-- What Plan answers. -/
def PlanPost (w : World) (f : Int) (s : Nat × Nat) (lo hi : Int) (e : Ending) (w' : World) : Prop :=
  Below w.heap.size w w' ∧ ((tkE f s lo hi ≠ 0 ∧ e = .returned (.tuple #[.agg #[.int .i64 0, .slice none 0 0], .int .i64 (tkE f s lo hi)])) ∨ (tkE f s lo hi = 0 ∧
    (((∃ n ∈ listN s, ∀ d, ¬ Ds lo hi f n d) ∧ e = .returned (.tuple #[.agg #[.int .i64 0, .slice none 0 0], .int .i64 18])) ∨
     ((∀ n ∈ listN s, ∃ d, Ds lo hi f n d) ∧ ∃ (A : Option Addr) (c : Nat) (L : List (Int × Int)), e = .returned (.tuple #[.agg #[.int .i64 f, .slice A L.length c], .int .i64 0]) ∧ SRd w' w'.heap.size A L ∧ Planned lo hi f (listN s) L ∧ L.length ≤ 128 ∧ L.length ≤ c ∧ c ≤ maxLen))))

set_option maxRecDepth 1000000 in
set_option maxHeartbeats 8000000 in
theorem plan_any (f : Int) (s : Nat × Nat) (lo hi : Int) (w : World) (hs : NOk s) (ht : DTab w) :
    Calls Tryd.prog 20 #[tv f s lo hi] w (PlanPost w f s lo hi) := by
  have hmm := @run_makeMap Tryd.prog
  have HC := Lib.hid (fun W => tkcheck_any f s lo hi W hs)
  have hm0 := ((Hp.start w).new 43 (tkcs f (s.1 : Int) (s.2 : Int) lo hi)).new 25 [.int .i64 0, .slice none 0 0]
  simp only [World.size_alloc, List.nil_append, List.cons_append] at hm0
  have HM := Lib.hid hm0
  have HT := Lib.hid ht
  obtain ⟨x, hx⟩ : ∃ x, x = tkE f s lo hi := ⟨_, rfl⟩
  rw [← hx] at HC
  have HX := Lib.hid hx
  clear hm0 ht
  unfold tv at HC
  unfold tv
  by_cases h0 : x = 0
  · subst h0
    obtain ⟨hl0, hl1, hf0, hf1, hfl⟩ := tkE_zero hx.symm
    have HFL := Lib.hid hfl
    have HO := Lib.hid (fun W => open_any f (s.1 : Int) (s.2 : Int) lo hi W hl0 hl1 ⟨hf0, hf1⟩)
    have HMB := Lib.hid (fun W (h : DTab W) => members_any s hs W h)
    obtain ⟨l, hl⟩ : ∃ l, l = listN s := ⟨_, rfl⟩
    rw [← hl] at HMB HFL
    have HL := Lib.hid hl
    obtain ⟨s1, s2⟩ := s
    unfold nv at HMB
    dsimp only at HC HM HO HMB ⊢
    clear hx hs hl hfl
    go_enter Tryd.func20, Tryd.ntmps20
    go_wp2_with fail
    refine (HC.out _).mono ?_
    rintro e w1 ⟨rfl, hb1⟩
    have hm1 := HM.out.step hb1
    have HM1 := Lib.hid hm1
    have c0 : w1.cell? ⟨w.heap.size, 0, none⟩ = some (.int .i64 f) := (hm1.at_ 0 rfl).cell 0
    have c1 : w1.cell? ⟨w.heap.size, 1, none⟩ = some (.int .u64 (s1 : Int)) := (hm1.at_ 0 rfl).cell 1
    have c2 : w1.cell? ⟨w.heap.size, 2, none⟩ = some (.int .u64 (s2 : Int)) := (hm1.at_ 0 rfl).cell 2
    have c3 : w1.cell? ⟨w.heap.size, 3, none⟩ = some (.int .i64 lo) := (hm1.at_ 0 rfl).cell 3
    have c4 : w1.cell? ⟨w.heap.size, 4, none⟩ = some (.int .i64 hi) := (hm1.at_ 0 rfl).cell 4
    clear hb1 hm1
    go_wp2_with fail
    refine (HO.out _).mono ?_
    rintro e w2 ⟨t, rfl, hbf, ht1, ht2, hb2⟩
    have hm2 := (HM1.out.step hb2).new 103 [.map (some (w1.heap.size + 2)), .map (some (w1.heap.size + 3))]
    simp only [List.cons_append, List.nil_append] at hm2
    obtain ⟨W3, hW3⟩ : ∃ W3, W3 = w2.alloc (.cells #[.map (some (w1.heap.size + 2)), .map (some (w1.heap.size + 3))] 103) := ⟨_, rfl⟩
    have hm3 : Hp w [(w.heap.size, 43, tkcs f s1 s2 lo hi), (w.heap.size + 1, 25, [.int .i64 0, .slice none 0 0]), (w2.heap.size, 103, [.map (some (w1.heap.size + 2)), .map (some (w1.heap.size + 3))])] W3 := by rw [hW3]; exact hm2
    have hz3 : W3.heap.size = w2.heap.size + 1 := by rw [hW3]; simp
    have ha3 : MapC iK W3 (w1.heap.size + 2) (ents i64v t.away) := by rw [hW3]; exact ht1.alloc _
    have hr3 : MapC iK W3 (w1.heap.size + 3) (ents i64v t.frm) := by rw [hW3]; exact ht2.alloc _
    have hlt3 := ht2.lt
    have hlow1 : w.heap.size + 2 ≤ w1.heap.size := by have := (HM1.out.at_ 1 rfl).lt; omega
    have hMn := MapC.new (K := iK) W3
    rw [hz3] at hMn
    obtain ⟨W4, hr4, hm4, hg4, hs4⟩ := run_store_new (K := iK) Tryd.underlying105 hMn (mget_nil f) (boolV true)
    have hz4 : W4.heap.size = w2.heap.size + 2 := by rw [hs4, World.size_alloc, hz3]
    have hm5 := (hm3.alloc (.map #[] 0)).grown hg4 (fun q e => by
      cases e
      refine ⟨by omega, fun p hp => ?_⟩
      simp only [List.mem_cons, List.not_mem_nil, or_false] at hp
      rcases hp with rfl | rfl | rfl <;> simp <;> omega)
    have ha4 := (ha3.alloc (.map #[] 0)).grown hg4 (by simp; omega)
    have hr4b := (hr3.alloc (.map #[] 0)).grown hg4 (by simp; omega)
    have htab4 : DTab W4 := HT.out.low hm5.below HT.out.lt
    have HRN := Lib.hid (show (Instr.mapUpdate 105 (.map (some (w2.heap.size + 1))) (.int .i64 f) (.bool true)).run Tryd.prog ((w2.alloc (.cells #[.map (some (w1.heap.size + 2)), .map (some (w1.heap.size + 3))] 103)).alloc (.map #[] 0)) = .ok () W4 by rw [hW3] at hr4; exact hr4)
    have HM5 := Lib.hid hm5
    have HA4 := Lib.hid ha4
    have HR4 := Lib.hid hr4b
    have HN4 := Lib.hid hm4
    have HBF := Lib.hid hbf
    have HT4 := Lib.hid htab4
    have c0 : ((w2.alloc (.cells #[.map (some (w1.heap.size + 2)), .map (some (w1.heap.size + 3))] 103)).alloc (.map #[] 0)).cell? ⟨w.heap.size, 0, none⟩ = some (.int .i64 f) := ((hm2.alloc _).at_ 0 rfl).cell 0
    have c0' : w2.cell? ⟨w.heap.size, 0, none⟩ = some (.int .i64 f) := ((HM1.out.step hb2).at_ 0 rfl).cell 0
    have d1 : W4.cell? ⟨w.heap.size, 1, none⟩ = some (.int .u64 (s1 : Int)) := (hm5.at_ 0 rfl).cell 1
    have d2 : W4.cell? ⟨w.heap.size, 2, none⟩ = some (.int .u64 (s2 : Int)) := (hm5.at_ 0 rfl).cell 2
    have HZ4 := Lib.hid hz4
    have HLT := Lib.hid (And.intro hlt3 hlow1)
    have hlt : w1.heap.size + 4 ≤ w2.heap.size := by omega
    clear c1 c2 c3 c4 hb2 hm2 hW3 hm3 hz3 ha3 hr3 hlt3 hlow1 hMn hr4 hm4 hg4 hs4 hz4 hm5 ha4 hr4b htab4 hbf ht1 ht2
    go_wp2_with fail
    rw [HRN.out]
    simp only [Result.andThen]
    rw [Oper.upon_skip]
    go_wp2_with fail
    refine (HMB.out _ HT4.out).mono ?_
    rintro e w5 ⟨MA, mc, rfl, hml, hb5⟩
    have hpk : PlPack w f s1 s2 lo hi t l MA mc (w1.heap.size + 2) (w1.heap.size + 3) w2.heap.size (w2.heap.size + 1) [] none 0 w5 :=
      ⟨HM5.out.step hb5, HA4.out.step hb5, HR4.out.step hb5, HN4.out.step hb5, by rw [← HZ4.out]; exact hml, World.ownsRow_nil _ _ _ _, HT4.out.below hb5, by have := hb5.size; have := HZ4.out; omega⟩
    have HPK := Lib.hid hpk
    have hlow1 := HLT.out.2
    have hlm : l.length ≤ maxLen := by
      rcases hml.2 with ⟨_, h1⟩ | ⟨g, cap, cur, hv, hb, hg, hnc, hmx, hs, ht⟩
      · omega
      · injection hv; omega
    have HLM := Lib.hid hlm
    clear hlm
    clear hml hb5 hpk d1 d2 c0 c0'
    go_wp2_with fail
    go_loopw [7, 28] (fun u v wx => ∃ (i : Nat) (L : List (Int × Int)) (OA : Option Addr) (oc : Nat), i ≤ l.length ∧ v = .int .i64 (i : Int) ∧ u = .slice OA L.length oc ∧ PlPack w f s1 s2 lo hi t l MA mc (w1.heap.size + 2) (w1.heap.size + 3) w2.heap.size (w2.heap.size + 1) L OA oc wx ∧ PlInv lo hi f l (l.take i) none L ∧ ∀ n ∈ l.take i, ∃ d, Ds lo hi f n d) (fun _ v _ => l.length - (intOf v).toNat)
    case atStart => exact ⟨0, [], none, 0, by omega, rfl, rfl, HPK.out, .start, by simp⟩
    case round =>
      obtain ⟨i, L, OA, oc, hiL, rfl, rfl, hp, hinv, hall⟩ := hrel
      have HP := Lib.hid hp
      have HIN := Lib.hid hinv
      have HALL := Lib.hid hall
      clear hp hinv hall
      by_cases hil : i < l.length
      · obtain ⟨b, off, hA, hbb, hcs⟩ := (Rd.of_own (enc := i64v) (L := l) HP.out.ml rfl).at_ (by omega)
        subst hA
        have hx0 := hcs i hil
        obtain ⟨n, hn⟩ : ∃ n, n = l.getD i 0 := ⟨_, rfl⟩
        have hx1 : wr.cell? ⟨b, off + i, none⟩ = some (.int .i64 n) := by rw [hx0, hn]; simp [hil]
        have hnm : n ∈ l := by rw [hn]; simp [List.getD, hil]
        have hnr := HFL.out n hnm
        have htk : l.take (i + 1) = l.take i ++ [n] := by rw [hn, List.take_add_one]; simp [List.getD, hil]
        have HTK := Lib.hid htk
        have HNM := Lib.hid hnm
        obtain ⟨hnr1, hnr2⟩ := hnr
        have c5 : wr.cell? ⟨w2.heap.size, 0, none⟩ = some (.map (some (w1.heap.size + 2))) := (HP.out.hp.at_ 2 rfl).cell 0
        clear hcs hx0 hn hnm htk
        have hlk := (look_iv HP.out.a n).1
        cases hq : lkz n t.away with
        | none =>
          rw [hq] at hlk
          simp only [Option.getD_none, Option.isSome_none] at hlk
          have HQ := Lib.hid hq
          clear hq
          have d0 : wr.cell? ⟨w.heap.size + 1, 0, none⟩ = some (.int .i64 0) := (HP.out.hp.at_ 1 rfl).cell 0
          have d1 : wr.cell? ⟨w.heap.size + 1, 1, none⟩ = some (.slice none 0 0) := (HP.out.hp.at_ 1 rfl).cell 1
          have f0 := (HP.out.hp.at_ 1 rfl).frozen 0
          have f1 := (HP.out.hp.at_ 1 rfl).frozen 1
          go_wp2
          refine bodyPost_ret (v := .tuple #[.agg #[.int .i64 0, .slice none 0 0], .int .i64 18]) (by simp [results, Tryd.results20, go_sem, d0, d1]) rfl ⟨bw_set (bw_set HP.out.hp.below (by omega) _) (by omega) _, .inr ⟨HX.out.symm, .inl ⟨⟨n, by rw [← HL.out]; exact HNM.out, fun d hd => ?_⟩, rfl⟩⟩⟩
          have := (HBF.out.aw n d).2 ⟨d, rfl, hd⟩
          rw [HQ.out] at this
          cases this
        | some v =>
          rw [hq] at hlk
          simp only [Option.getD_some, Option.isSome_some] at hlk
          obtain ⟨d, rfl, hd⟩ := (HBF.out.aw n v).1 hq
          have HD := Lib.hid hd
          have HI1 := Lib.hid (show PlInv lo hi f l (l.take (i + 1)) (some n) L by rw [HTK.out]; exact HIN.out.take HNM.out hd)
          have HAL1 := Lib.hid (show ∀ k ∈ l.take (i + 1), ∃ d, Ds lo hi f k d from fun k hk => by
            rw [HTK.out, List.mem_append] at hk
            rcases hk with hk | hk
            · exact HALL.out k hk
            · rw [List.mem_singleton] at hk; rw [hk]; exact ⟨d, hd⟩)
          clear hq hd
          go_wp2_with fail
          go_loopw [7, 9] (fun u v wx => ∃ (n : Int) (L : List (Int × Int)) (OA : Option Addr) (oc : Nat), lo ≤ n ∧ n ≤ hi ∧ v = .int .i64 n ∧ u = .slice OA L.length oc ∧ PlPack w f s1 s2 lo hi t l (some ⟨b, off, none⟩) mc (w1.heap.size + 2) (w1.heap.size + 3) w2.heap.size (w2.heap.size + 1) L OA oc wx ∧ PlInv lo hi f l (l.take (i + 1)) (some n) L) (fun _ v _ => ((lkz (intOf v) t.away).getD 0).toNat)
          case atStart => exact ⟨n, L, OA, oc, hnr1, hnr2, rfl, rfl, HP.out, HI1.out⟩
          case round =>
            clear hlk hx1 c5
            obtain ⟨n', L', OA', oc', hk1, hk2, rfl, rfl, hp, hinv⟩ := hrel
            have HP1 := Lib.hid hp
            have HIN1 := Lib.hid hinv
            have hlb := look_bv hp.n n'
            have hget := ndM_get f n' L'
            clear hp hinv
            by_cases hin : n' = f ∨ n' ∈ L'.map (·.2)
            · rw [hget, if_pos hin] at hlb
              simp only [Option.getD_some] at hlb
              have HST := Lib.hid (HIN1.out.stop hin)
              clear hget
              have HPE := Lib.hid HP1.out
              have hlm : (l.length : Int) ≤ 9223372036854775807 := by have := HLM.out; unfold maxLen at this; omega
              go_wp2
              go_roundw
              case rel => exact ⟨i + 1, L', OA', oc', by omega, by go_num, rfl, HPE.out, HST.out, HAL1.out⟩
              case measure => simp [intOf]; omega
            · rw [hget, if_neg hin] at hlb
              simp only [Option.getD_none] at hlb
              clear hget
              have hnf : n' ≠ f := fun e => hin (.inl e)
              have hnm : n' ∉ L'.map (·.2) := fun e => hin (.inr e)
              obtain ⟨d0, hd0⟩ := (HIN1.out.cu n' rfl).1
              obtain ⟨d1, rfl⟩ : ∃ d1, d0 = d1 + 1 := by
                cases d0 with
                | zero => exact absurd (ds_zero.1 hd0) hnf
                | succ d1 => exact ⟨d1, rfl⟩
              obtain ⟨m, hm⟩ := hd0.has_fr
              have hfm : lkz n' t.frm = some m := (HBF.out.fr n' m).2 ⟨d1, hm⟩
              have haw1 : lkz n' t.away = some ((d1 + 1 : Nat) : Int) := (HBF.out.aw n' _).2 ⟨_, rfl, hd0⟩
              have haw2 : lkz m t.away = some (d1 : Int) := (HBF.out.aw m _).2 ⟨_, rfl, hm.2.1⟩
              have HAW1 := Lib.hid haw1
              have HFM := Lib.hid hfm
              have HAW2 := Lib.hid haw2
              have hadd := HIN1.out.add hnf hnm hm
              have hmr := hm.2.1.1.range ⟨hf0, hf1⟩
              have HMR := Lib.hid hmr
              have hlen := HIN1.out.len hl0 hl1 ⟨hf0, hf1⟩
              have HADD := Lib.hid hadd
              obtain ⟨Wm1, hr1, hm1, hg1, hs1⟩ := run_store_new (K := iK) Tryd.underlying105 HP1.out.n (by rw [ents_get, ndM_get, if_neg hin]; rfl) (boolV true)
              have hr1' : (Instr.mapUpdate 105 (.map (some (w2.heap.size + 1))) (.int .i64 n') (.bool true)).run Tryd.prog wr = .ok () Wm1 := hr1
              have hfr1 := HP1.out.r.grown hg1 (by simp; omega)
              have hln : (Instr.lookup 98 (.map (some (w1.heap.size + 3))) (.int .i64 n') false).run Tryd.prog Wm1 = .ok (.int .i64 m) Wm1 := by
                have := (look_iv hfr1 n').2
                rw [hfm] at this
                exact this
              have c6 : Wm1.cell? ⟨w2.heap.size, 1, none⟩ = some (.map (some (w1.heap.size + 3))) := ((HP1.out.hp.at_ 2 rfl).grw hg1 (by simp)).cell 1
              have HO1 := Lib.hid (own_grown HP1.out.o hg1 (fun g e e2 => by cases e2; have := (HP1.out.o.lt _ e).1; omega))
              have HG1 := Lib.hid hg1
              have HM1' := Lib.hid hm1
              have hnb := fun q hq => (HO1.out.lt q hq).1
              have HNB := Lib.hid hnb
              obtain ⟨i0, hi0, hz0, hz1, hz2⟩ := info_parts infoStepT
              have HI0 := Lib.hid hi0
              have HZ0 := Lib.hid hz0
              have HZ1 := Lib.hid hz1
              have HZ2 := Lib.hid hz2
              clear hm hfm haw1 haw2 hadd hr1 hfr1 hg1 hm1 hs1 hnb hi0 hz0 hz1 hz2 hd0 hin hnm hmr hnf
              go_wp2_with (at_builtin; refine wpList_append_own _ rfl _ _ 23 rfl (w2.heap.size + 2) 27 i0 (.agg #[.int .i64 0, .int .i64 0]) 2 16 Tryd.underlying23 HI0.out HZ0.out HZ1.out HZ2.out rfl (by decide) _ _ _ rfl (own_below HO1.out (bw_new (Below.refl _ _) _)) ⟨Wm1.heap.size, 0, none⟩ 1 1 [.int .i64 m, .int .i64 n'] rfl rfl (World.news_of_block (cs := #[.int .i64 m, .int .i64 n']) (t := 27) (fr := (0, 0)) (heap_alloc_new Wm1 _)) (by simp [Value.oneCell']) (by unfold maxLen; omega) (by omega) (by simp; have := HP1.out.size; have := HG1.out.size; omega) ?_)
              intro v' w9 hown hgrow _
              obtain ⟨g, rc2, hv, hrc2⟩ := own_form hown (by omega)
              subst hv
              have HPN := Lib.hid (HP1.out.add (by omega) (by omega) (by omega) (by omega) HT.out.lt HG1.out HM1'.out hgrow hown)
              have c7 : w9.cell? ⟨w2.heap.size, 1, none⟩ = some (.map (some (w1.heap.size + 3))) := (HPN.out.hp.at_ 2 rfl).cell 1
              have hln9 : (Instr.lookup 98 (.map (some (w1.heap.size + 3))) (.int .i64 n') false).run Tryd.prog w9 = .ok (.int .i64 m) w9 := by
                have := (look_iv HPN.out.r n').2
                rw [HFM.out] at this
                exact this
              have HLN2 := Lib.hid (show L'.length + 1 = (L' ++ [(m, n')]).length by simp)
              have haw1 := HAW1.out
              have haw2 := HAW2.out
              obtain ⟨hmr1, hmr2⟩ := HMR.out
              clear hown hgrow hr1' hln hlb c6
              go_wp2
              go_roundw
              case rel => exact ⟨m, L' ++ [(m, n')], _, rc2, hmr1, hmr2, rfl, by rw [← HLN2.out], HPN.out, HADD.out⟩
              case measure => simp only [intOf, haw1, haw2, Option.getD_some]; omega
      · obtain rfl : i = l.length := by omega
        have HIN2 := Lib.hid (show PlInv lo hi f l l none L by have := HIN.out; rwa [List.take_length] at this)
        have HALL2 := Lib.hid (show ∀ n ∈ l, ∃ d, Ds lo hi f n d by have := HALL.out; rwa [List.take_length] at this)
        have hlen := HIN2.out.len hl0 hl1 ⟨hf0, hf1⟩
        obtain ⟨N, hN⟩ := nst_of L (fun x hx => by
          obtain ⟨d, hd⟩ := HIN2.out.fr x hx
          have := hd.1.1.range ⟨hf0, hf1⟩
          have := hd.2.1.1.range ⟨hf0, hf1⟩
          unfold isN
          omega)
        have hNl : N.length = L.length := by rw [← hN, List.length_map]
        subst hN
        have hbd : ∀ k, 0 ≤ awy t.away k ∧ awy t.away k ≤ 127 := fun k => by
          unfold awy
          cases hk : lkz k t.away with
          | none => simp
          | some v =>
            obtain ⟨e, rfl, he⟩ := (HBF.out.aw k v).1 hk
            have := he.le ⟨hf0, hf1⟩ hl0 hl1
            simp; omega
        have hdw : ∀ k d, Ds lo hi f k d → awy t.away k = d := fun k d hd => by
          have : lkz k t.away = some (d : Int) := (HBF.out.aw k d).2 ⟨d, rfl, hd⟩
          unfold awy; rw [this]; rfl
        have HDW := Lib.hid hdw
        have hown := HP.out.o
        rw [List.length_map] at hown hlen ⊢
        have HS := Lib.hid (sortSteps_any t.away hbd w2.heap.size (w1.heap.size + 2) (w1.heap.size + 3) (w2.heap.size + 2) oc OA N wr hown (HP.out.hp.at_ 2 rfl) HP.out.a (by omega) (by omega))
        have HOW := Lib.hid (fun q hq => (hown.lt q hq).1)
        clear hNl hbd hdw hown
        go_wp2_with fail
        refine HS.out.mono ?_
        rintro e w6 ⟨rfl, N', hperm, hpw, hsr, hgr⟩
        have hPl : Planned lo hi f l (N'.map (·.1)) := HIN2.out.planned (hperm.map _) (by
          rw [List.pairwise_map]
          refine hpw.imp (fun {x y} hxy dx dy hx hy => ?_)
          have e1 := HDW.out _ _ hx
          have e2 := HDW.out _ _ hy
          unfold StLt at hxy
          rw [e1, e2] at hxy
          omega)
        have hl' : N'.length = N.length := hperm.length_eq
        have HPL := Lib.hid hPl
        have hm6 := HP.out.hp.grown hgr (fun q e => by
          have := HOW.out q e
          refine ⟨by omega, fun p hp => ?_⟩
          simp only [List.mem_cons, List.not_mem_nil, or_false] at hp
          rcases hp with rfl | rfl | rfl <;> simp <;> omega)
        have HM6 := Lib.hid hm6
        have HSR := Lib.hid hsr
        have HNL := Lib.hid hl'
        have hgo : ∀ p : Addr, OA = some p → 0 < N.length → w2.heap.size + 2 ≤ p.block := fun p hp h0 => HOW.out p.block (by subst hp; exact rfl)
        have HGO := Lib.hid hgo
        have c0 : w6.cell? ⟨w.heap.size, 0, none⟩ = some (.int .i64 f) := (hm6.at_ 0 rfl).cell 0
        have d0 : w6.cell? ⟨w.heap.size + 1, 0, none⟩ = some (.int .i64 0) := (hm6.at_ 1 rfl).cell 0
        have d1 : w6.cell? ⟨w.heap.size + 1, 1, none⟩ = some (.slice none 0 0) := (hm6.at_ 1 rfl).cell 1
        have f0 := (hm6.at_ 1 rfl).frozen 0
        have f1 := (hm6.at_ 1 rfl).frozen 1
        clear hperm hpw hsr hgr hPl hl' hm6 hgo
        have hoc : N.length ≤ oc ∧ oc ≤ maxLen := by
          have h2 := HP.out.o
          rw [List.length_map] at h2
          rcases h2.2 with ⟨h3, h1⟩ | ⟨g, cap, cur, hv, hb, hg, hnc, hmx, hs, ht⟩
          · injection h3 with _ _ h3; unfold maxLen; omega
          · injection hv; unfold maxLen at *; omega
        have HOC := Lib.hid hoc
        clear hoc
        go_wp2
        refine bodyPost_ret (v := .tuple #[.agg #[.int .i64 f, .slice OA N.length oc], .int .i64 0]) (by simp [results, Tryd.results20, go_sem, d0, d1]) rfl ⟨bw_set (bw_set HM6.out.below (by omega) _) (by omega) _, .inr ⟨HX.out.symm, .inr ⟨by rw [← HL.out]; exact HALL2.out, OA, oc, N'.map (·.1), ?_, ?_, by rw [← HL.out]; exact HPL.out, by rw [List.length_map, HNL.out]; exact hlen, by rw [List.length_map, HNL.out]; exact HOC.out.1, HOC.out.2⟩⟩⟩
        · rw [List.length_map, HNL.out]
        · intro hpos
          have hpos' : 0 < N.length := by rw [← HNL.out]; rwa [List.length_map] at hpos
          have e1 : ((w6.setCell ⟨w.heap.size + 1, 0, none⟩ (.int .i64 f)).setCell ⟨w.heap.size + 1, 1, none⟩ (.slice OA N.length oc)).heap.size = w6.heap.size := by simp
          rw [e1]
          refine ((HSR.out.set (q := ⟨w.heap.size + 1, 0, none⟩) (fun p hp => ?_) (.int .i64 f)).set (q := ⟨w.heap.size + 1, 1, none⟩) (fun p hp => ?_) (.slice OA N.length oc)) hpos
          · have := HGO.out p hp hpos'
            simp; omega
          · have := HGO.out p hp hpos'
            simp; omega
  · have hz : (x != 0) = true := by simpa using h0
    have H0 := Lib.hid h0
    obtain ⟨s1, s2⟩ := s
    dsimp only at HC HM ⊢
    clear hx hs h0
    go_enter Tryd.func20, Tryd.ntmps20
    go_wp2_with fail
    refine (HC.out _).mono ?_
    rintro e w1 ⟨rfl, hb1⟩
    have hm1 := HM.out.step hb1
    have HM1 := Lib.hid hm1
    have d0 : w1.cell? ⟨w.heap.size + 1, 0, none⟩ = some (.int .i64 0) := (hm1.at_ 1 rfl).cell 0
    have d1 : w1.cell? ⟨w.heap.size + 1, 1, none⟩ = some (.slice none 0 0) := (hm1.at_ 1 rfl).cell 1
    have f0 := (hm1.at_ 1 rfl).frozen 0
    have f1 := (hm1.at_ 1 rfl).frozen 1
    clear hb1 hm1
    go_wp2
    have hx := HX.out
    exact bodyPost_ret (v := .tuple #[.agg #[.int .i64 0, .slice none 0 0], .int .i64 x]) (by simp [results, Tryd.results20, go_sem, d0, d1]) rfl ⟨bw_set (bw_set HM1.out.below (by omega) _) (by omega) _, .inl ⟨by rw [← hx]; exact H0.out, by rw [← hx]⟩⟩
end Go.Proofs.YtfickhncbahekaaDoor
