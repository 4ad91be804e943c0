/- Package bombardelaw37: known: the examples of the chapter hold. Conditions: the library's table of powers of ten reads as its text lays it. -/
import Derived.Test.YtkamepalomkpbaaGreatDoorWishEx
namespace Go.Proofs.YtkamepalomkpbaaGreatDoor
open Go.RowKit

theorem exWs_ok {L : List Int} (hL : ∀ x ∈ L, I64 x) : ∀ i, ∀ x ∈ exWs i L, I64 x.fn ∧ I64 x.fd ∧ x.nm.size ≤ 1000000000 ∧ x.tn.size ≤ 1000000000 := by
  induction L with
  | nil => intro i x hx; cases hx
  | cons n r ih =>
    intro i x hx
    rcases List.mem_cons.1 hx with rfl | hx
    · exact ⟨hL n List.mem_cons_self, ⟨by show -9223372036854775808 ≤ (1 : Int); decide, by show (1 : Int) ≤ 9223372036854775807; decide⟩, by show (wName i).size ≤ 1000000000; unfold wName; rw [ByteArray.size_append]; exact (by decide : 1 + 1 ≤ 1000000000), by show flute.size ≤ 1000000000; decide⟩
    · exact ih (fun y hy => hL y (List.mem_cons_of_mem _ hy)) (i + 1) x hx

theorem sh8 : shF 8 1 = 0 := shF_eq (s := 0) (.mk 0 0 (by decide) (by decide +kernel) (by decide +kernel)) (by decide) (by decide)
theorem sh4 : shF 4 1 = 12 := shF_eq (s := 12) (.mk 12 0 (by decide) (by decide +kernel) (by decide +kernel)) (by decide) (by decide)
theorem sh16 : shF 16 1 = -12 := shF_eq (s := -12) (.mk 0 12 (by decide) (by decide +kernel) (by decide +kernel)) (by decide) (by decide)
theorem pr_whole (n : Int) (h : 0 < n ∧ n ≤ 128) : PR n 1 := ⟨⟨by decide, by decide, by omega, by omega, by simp⟩, by omega, by omega, by decide⟩
theorem exE (i : Nat) (n : Int) (h : 0 < n ∧ n ≤ 128) : wE (exW i n) = 0 := by
  unfold wE exW
  dsimp only
  rw [if_neg (by decide), if_neg (by decide), if_neg (by rw [pErr_ok (pr_whole n h)]; decide)]
  rfl
theorem nm0 : nameB (wName 0) = true := by decide +kernel
theorem nm1 : nameB (wName 1) = true := by decide +kernel
theorem nm2 : nameB (wName 2) = true := by decide +kernel
theorem ex3E : wsE [] (exWs 0 [8, 4, 16]) = 0 := by
  rw [show exWs 0 [8, 4, 16] = [exW 0 8, exW 1 4, exW 2 16] from rfl, wsE_cons, wsE_cons, wsE_cons, exE 0 8 (by decide), exE 1 4 (by decide), exE 2 16 (by decide)]
  rw [show (exW 0 8).nm = wName 0 from rfl, show (exW 1 4).nm = wName 1 from rfl, show (exW 2 16).nm = wName 2 from rfl, nm0, nm1, nm2]
  decide +kernel
theorem ex2E : wsE [] (exWs 0 [8, 4]) = 0 := by
  rw [show exWs 0 [8, 4] = [exW 0 8, exW 1 4] from rfl, wsE_cons, wsE_cons, exE 0 8 (by decide), exE 1 4 (by decide)]
  rw [show (exW 0 8).nm = wName 0 from rfl, show (exW 1 4).nm = wName 1 from rfl, nm0, nm1]
  decide +kernel
theorem exB {l : List Int} {rules g : List Int} (h : wsE [] (exWs 0 l) = 0) (hl : l.length ≤ 12) (hr : rules.length ≤ 48) (hs : sqE 128 3 none rules = 0) (hg : gpE l.length g = 0) : bothE (exWs 0 l) rules g = 0 := by
  have hp : pbE (exWs 0 l) rules = 0 := by
    unfold pbE
    rw [exWs_length, if_neg (by omega), if_neg (by omega), if_neg (by omega)]
    exact hs
  unfold bothE
  rw [if_neg (by omega), exWs_length]
  exact hg
theorem lo0 (l : List Int) : loH (wat (exWs 0 (8 :: l)) 0) = 36 ∧ hiH (wat (exWs 0 (8 :: l)) 0) = 96 := by
  unfold loH hiH shW
  rw [show wat (exWs 0 (8 :: l)) 0 = exW 0 8 from rfl]
  show 36 + shF 8 1 = 36 ∧ 96 + shF 8 1 = 96
  rw [sh8]; decide
theorem lo1 (l : List Int) : loH (wat (exWs 0 (8 :: 4 :: l)) 1) = 48 ∧ hiH (wat (exWs 0 (8 :: 4 :: l)) 1) = 108 := by
  unfold loH hiH shW
  rw [show wat (exWs 0 (8 :: 4 :: l)) 1 = exW 1 4 from rfl]
  show 36 + shF 4 1 = 48 ∧ 96 + shF 4 1 = 108
  rw [sh4]; decide
theorem lo2 (l : List Int) : loH (wat (exWs 0 (8 :: 4 :: 16 :: l)) 2) = 24 ∧ hiH (wat (exWs 0 (8 :: 4 :: 16 :: l)) 2) = 84 := by
  unfold loH hiH shW
  rw [show wat (exWs 0 (8 :: 4 :: 16 :: l)) 2 = exW 2 16 from rfl]
  show 36 + shF 16 1 = 24 ∧ 96 + shF 16 1 = 84
  rw [sh16]; decide
theorem cost2 (l : List Int) : costZ (exWs 0 (8 :: 4 :: l)) [0, 1] = 73 := by
  unfold costZ his los
  simp only [List.map_cons, List.map_nil, lo0, lo1]
  decide
theorem cost3 : costZ (exWs 0 [8, 4, 16]) [0, 1, 2] = 85 := by
  unfold costZ his los
  simp only [List.map_cons, List.map_nil, lo0, lo1, lo2]
  decide
theorem ap01 (rules : List Int) : apB rules (wat (exWs 0 [8, 4]) 0) (wat (exWs 0 [8, 4]) 1) = decide ((12 : Int) ∈ rules) := by
  rw [show wat (exWs 0 [8, 4]) 0 = exW 0 8 from rfl, show wat (exWs 0 [8, 4]) 1 = exW 1 4 from rfl]
  unfold apB
  rw [if_neg (fun h => h rfl)]
  unfold absD shW
  show (decide ((0 : Int) = 0) && decide (max (shF 8 1 - shF 4 1) (-(shF 8 1 - shF 4 1)) ∈ rules)) = _
  rw [sh8, sh4]
  rfl
theorem fst_ex (rules : List Int) : fstP (exWs 0 [8, 4]) rules [0, 1] = if (12 : Int) ∈ rules then some (0, 1) else none := by
  unfold fstP pairOf
  rw [List.find?_cons, ap01]
  by_cases h : (12 : Int) ∈ rules
  · rw [decide_eq_true h, if_pos h]
  · rw [decide_eq_false h, if_neg h]; rfl

theorem ints_rd {w : World} {t : TypeId} (cs : List Int) : Rd i64v (w.alloc (.cells (cs.map i64v).toArray t)) (w.heap.size + 1) (some ⟨w.heap.size, 0, none⟩) cs := by
  have h := Blk.rd (enc := i64v) (L := cs) (Blk.new (w := w) (t := t) (cs := cs.map i64v))
  rw [World.size_alloc] at h
  exact h

/-- An example's problem in memory. -/
theorem ex_pb {w w' : World} {A B : Option Addr} {n cap m c2 : Nat} {L rules : List Int} (hL : ∀ x ∈ L, I64 x) (hl : L.length = n) (hm : rules.length = m) (h1 : n ≤ cap) (h2 : cap ≤ maxLen) (h3 : m ≤ c2) (h4 : c2 ≤ maxLen)
    (hw : WRd w' w'.heap.size A (exWs 0 L)) (hr : Rd i64v w w.heap.size B rules) (hb : Below w.heap.size w w') : Pb w' w'.heap.size A n cap B m c2 (exWs 0 L) rules where
  wl := by rw [exWs_length]; exact hl
  rl := hm
  wr := hw
  rr := (hr.below hb).more hb.size
  wc := h1
  rc := h3
  wm := h2
  rm := h4
  ok := exWs_ok hL 0

abbrev l3 : List Int := [8, 4, 16]
abbrev l2 : List Int := [8, 4]
instance (n : Int) : Decidable (I64 n) := by unfold I64; infer_instance
theorem l3_ok : ∀ x ∈ l3, I64 x := by decide
theorem l2_ok : ∀ x ∈ l2, I64 x := by decide

/-- Cost of a group of an example. -/
theorem cost_ct (L : List Int) (n : Nat) (g : List Int) (gn : Nat) (z : Int) (hz : bothE (exWs 0 L) [] g = 0) (hc : costZ (exWs 0 L) g = z) (hL : ∀ x ∈ L, I64 x) (hl : L.length = n) (hg : g.length = gn) (hgm : gn ≤ 1000)
    {A : Option Addr} {cap : Nat} (W : World) (h1 : n ≤ cap) (h2 : cap ≤ maxLen) (hw : WRd W W.heap.size A (exWs 0 L)) (ht : Tab W) :
    Calls Tryz.prog 14 #[.agg #[.slice A n cap, .slice none 0 0], .slice (some ⟨W.heap.size, 0, none⟩) gn gn] (W.alloc (.cells (g.map i64v).toArray 3)) fun e w' => e = .returned (.tuple #[.int .i64 z, .int .i64 0]) ∧ Below W.heap.size W w' := by
  have hb0 := bw_new (Below.refl _ W) (.cells (g.map i64v).toArray 3)
  have hp := (ex_pb (w := W) (m := 0) (c2 := 0) (B := none) (rules := []) hL hl rfl h1 h2 (Nat.le_refl _) (by decide) hw Rd.nil (Below.refl _ _)).below hb0
  have := wcost_any A n cap none 0 0 (exWs 0 L) [] (some ⟨W.heap.size, 0, none⟩) gn gn g (W.heap.size + 1) (W.alloc (.cells (g.map i64v).toArray 3)) (hp.more (by omega)) (by simp) hg (ints_rd g) (Nat.le_refl _) (by unfold maxLen; omega) (ht.alloc _)
  rw [hz, hc, if_pos rfl] at this
  exact this.mono fun e w' ⟨he, hb⟩ => ⟨he, hb0.trans (hb.mono (by simp))⟩
theorem perm_ct (L : List Int) (n : Nat) (rules : List Int) (m : Nat) (g : List Int) (gn : Nat) (v : Value) (hv : permVal (exWs 0 L) rules g = v) (hL : ∀ x ∈ L, I64 x) (hl : L.length = n) (hr : rules.length = m) (hmm : m ≤ 1000) (hg : g.length = gn) (hgm : gn ≤ 1000)
    {A B : Option Addr} {cap : Nat} (W : World) (h1 : n ≤ cap) (h2 : cap ≤ maxLen) (hw : WRd W W.heap.size A (exWs 0 L)) (hrr : Rd i64v W W.heap.size B rules) (ht : Tab W) :
    Calls Tryz.prog 9 #[.agg #[.slice A n cap, .slice B m m], .slice (some ⟨W.heap.size, 0, none⟩) gn gn] (W.alloc (.cells (g.map i64v).toArray 3)) fun e w' => e = .returned v ∧ Below W.heap.size W w' := by
  have hb0 := bw_new (Below.refl _ W) (.cells (g.map i64v).toArray 3)
  have hp := (ex_pb (w := W) (m := m) (c2 := m) (B := B) (rules := rules) hL hl hr h1 h2 (Nat.le_refl _) (by unfold maxLen; omega) hw hrr (Below.refl _ _)).below hb0
  have := wperm_any A n cap B m m (exWs 0 L) rules (some ⟨W.heap.size, 0, none⟩) gn gn g (W.heap.size + 1) (W.alloc (.cells (g.map i64v).toArray 3)) (hp.more (by omega)) (by simp) hg (ints_rd g) (Nat.le_refl _) (by unfold maxLen; omega) (ht.alloc _)
  rw [hv] at this
  exact this.mono fun e w' ⟨he, hb⟩ => ⟨he, hb0.trans (hb.mono (by simp))⟩
/-- Example on a new row of ints. -/
theorem ex_ct (RB : Option Addr) (rm : Nat) (L : List Int) (n : Nat) (hl : L.length = n) (hn : n ≤ 9) (W : World) :
    Calls Tryz.prog 26 #[.slice RB rm rm, .slice (some ⟨W.heap.size, 0, none⟩) n n] (W.alloc (.cells (L.map i64v).toArray 3)) fun e w' => ∃ A cap, e = .returned (.agg #[.slice A n cap, .slice RB rm rm]) ∧ n ≤ cap ∧ cap ≤ maxLen ∧ WRd w' w'.heap.size A (exWs 0 L) ∧ Below W.heap.size W w' := by
  have hb0 := bw_new (Below.refl _ W) (.cells (L.map i64v).toArray 3)
  have h := example_any RB rm rm (some ⟨W.heap.size, 0, none⟩) n n L (W.alloc (.cells (L.map i64v).toArray 3)) hl hn (by have := ints_rd (w := W) (t := 3) L; simpa using this)
  exact h.mono fun e w' ⟨A, cap, he, h1, h2, h3, hb⟩ => ⟨A, cap, he, h1, h2, h3, hb0.trans (hb.mono (by simp))⟩

theorem both3 (g : List Int) (hg : gpE 3 g = 0) : bothE (exWs 0 l3) [] g = 0 := exB ex3E (by decide) (by decide) rfl hg
theorem both2 (rules g : List Int) (hr : rules.length ≤ 48) (hs : sqE 128 3 none rules = 0) (hg : gpE 2 g = 0) : bothE (exWs 0 l2) rules g = 0 := exB ex2E (by decide) hr hs hg

set_option maxRecDepth 100000 in
set_option maxHeartbeats 4000000 in
theorem wknown_any (w : World) (ht : Tab w) :
    Calls Tryz.prog 7 #[] w fun e w' => e = .returned (.bool true) ∧ Below w.heap.size w w' := by
  have C1 := Lib.hid (fun (A : Option Addr) (cap : Nat) W h1 h2 hw ht => cost_ct l3 3 [0, 1] 2 73 (both3 _ (by decide)) (cost2 [16]) l3_ok rfl rfl (by decide) (A := A) (cap := cap) W h1 h2 hw ht)
  have C2 := Lib.hid (fun (A : Option Addr) (cap : Nat) W h1 h2 hw ht => cost_ct l3 3 [0, 1, 2] 3 85 (both3 _ (by decide)) cost3 l3_ok rfl rfl (by decide) (A := A) (cap := cap) W h1 h2 hw ht)
  have P1 := Lib.hid (fun (A B : Option Addr) (cap : Nat) W h1 h2 hw hr ht => perm_ct l2 2 [12] 1 [0, 1] 2 (.tuple #[.int .i64 0, .int .i64 1, .bool false, .int .i64 0]) (perm_pair (both2 [12] [0, 1] (by decide) (by decide) (by decide)) (by rw [fst_ex]; decide)) l2_ok rfl rfl (by decide) rfl (by decide) (A := A) (B := B) (cap := cap) W h1 h2 hw hr ht)
  have P2 := Lib.hid (fun (A B : Option Addr) (cap : Nat) W h1 h2 hw hr ht => perm_ct l2 2 [] 0 [0, 1] 2 (.tuple #[.int .i64 0, .int .i64 0, .bool true, .int .i64 0]) (by rw [perm_none (both2 [] [0, 1] (by decide) (by decide) (by decide)) (by rw [fst_ex]; decide), cost2 []]; rfl) l2_ok rfl rfl (by decide) rfl (by decide) (A := A) (B := B) (cap := cap) W h1 h2 hw hr ht)
  have X3 := Lib.hid (fun W => ex_ct none 0 l3 3 rfl (by decide) W)
  have X2 := Lib.hid (fun RB rm W => ex_ct RB rm l2 2 rfl (by decide) W)
  go_enter Tryz.func7, Tryz.ntmps7
  go_wp2_with fail
  refine (X3.out _).mono ?_
  rintro e w1 ⟨A1, cap1, rfl, a1, b1, r1, hb1⟩
  have ht1 := ht.below hb1
  go_wp2_with fail
  refine (C1.out _ _ _ a1 b1 r1 ht1).mono ?_
  rintro e w2 ⟨rfl, hk2⟩
  have hb2 := hb1.trans (hk2.mono hb1.size)
  have ht2 := ht.below hb2
  clear hk2 r1 a1 b1 hb1 ht1
  go_wp2_with fail
  refine (X3.out _).mono ?_
  rintro e w3 ⟨A3, cap3, rfl, a3, b3, r3, hk3⟩
  have hb3 := hb2.trans (hk3.mono hb2.size)
  have ht3 := ht.below hb3
  clear hk3 hb2 ht2
  go_wp2_with fail
  refine (C2.out _ _ _ a3 b3 r3 ht3).mono ?_
  rintro e w4 ⟨rfl, hk4⟩
  have hb4 := hb3.trans (hk4.mono hb3.size)
  have ht4 := ht.below hb4
  clear hk4 r3 a3 b3 hb3 ht3
  go_wp2_with fail
  have hrd := ints_rd (w := w4) (t := 3) [12]
  have hb4' := bw_new hb4 (.cells #[.int .i64 12] 3)
  have hx2 := X2.out (some ⟨w4.heap.size, 0, none⟩) 1 (w4.alloc (.cells #[.int .i64 12] 3))
  rw [World.size_alloc] at hx2
  refine hx2.mono ?_
  rintro e w5 ⟨A5, cap5, rfl, a5, b5, r5, hk5⟩
  have hb5 := hb4'.trans (hk5.mono (by have := hb4.size; omega))
  have ht5 := ht.below hb5
  have hrd5 := (hrd.below hk5).more (Bd' := w5.heap.size) (by have := hk5.size; simp at this; omega)
  clear hx2
  clear hk5 hrd hb4 hb4' ht4
  go_wp2_with fail
  refine (P1.out _ _ _ _ a5 b5 r5 hrd5 ht5).mono ?_
  rintro e w6 ⟨rfl, hk6⟩
  have hb6 := hb5.trans (hk6.mono hb5.size)
  have ht6 := ht.below hb6
  clear hk6 r5 a5 b5 hb5 ht5 hrd5
  go_wp2_with fail
  refine (X2.out _ _ _).mono ?_
  rintro e w7 ⟨A7, cap7, rfl, a7, b7, r7, hk7⟩
  have hb7 := hb6.trans (hk7.mono hb6.size)
  have ht7 := ht.below hb7
  clear hk7 hb6 ht6
  go_wp2_with fail
  refine (P2.out _ _ _ _ a7 b7 r7 Rd.nil ht7).mono ?_
  rintro e w8 ⟨rfl, hk8⟩
  have hb8 := hb7.trans (hk8.mono hb7.size)
  clear hk8 r7 a7 b7 hb7 ht7
  go_wp2
  go_ret
  exact ⟨rfl, hb8⟩
end Go.Proofs.YtkamepalomkpbaaGreatDoor
