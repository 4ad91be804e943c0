/- Package wish: check, Check and right. Conditions: the problem's parts are ints, its texts not too long. -/
import Derived.Test.YtkamepalomkpbaaGreatDoorName
import Derived.Test.YtkamepalomkpbaaGreatDoorMap
namespace Go.Proofs.YtkamepalomkpbaaGreatDoor
open Go.RowKit

set_option maxRecDepth 100000 in
set_option maxHeartbeats 1000000 in
theorem wchk_any (nm : ByteArray) (dv : Int) (tn : ByteArray) (fn fd lo hi : Int) (w : World) (hfn : I64 fn) (hfd : I64 fd) (ht : tn.size ≤ 1000000000) :
    Calls Tryz.prog 44 #[.agg #[.string nm, .int .i64 dv, .string tn, .int .i64 fn, .int .i64 fd, .int .i64 lo, .int .i64 hi]] w fun e w' =>
      e = .returned (.int .i64 (wE ⟨nm, dv, tn, fn, fd, lo, hi⟩)) ∧ Below w.heap.size w w' := by
  have hn := fun W => name_any tn W ht
  have hp := fun W => pcheck_any fn fd W hfn hfd
  have hc := fun W => compass_any lo hi W
  have hE : wE ⟨nm, dv, tn, fn, fd, lo, hi⟩ = if dv < 0 ∨ 8 ≤ dv then 3 else if nameB tn = false then 8 else if pErr fn fd ≠ 0 then pErr fn fd else cmE lo hi := rfl
  obtain ⟨r, hr⟩ : ∃ r, r = wE ⟨nm, dv, tn, fn, fd, lo, hi⟩ := ⟨_, rfl⟩
  rw [← hr] at hE ⊢
  obtain ⟨b, hb⟩ : ∃ b, b = nameB tn := ⟨_, rfl⟩
  obtain ⟨p, hpp⟩ : ∃ p, p = pErr fn fd := ⟨_, rfl⟩
  obtain ⟨c, hcc⟩ : ∃ c, c = cmE lo hi := ⟨_, rfl⟩
  rw [← hb] at hn hE
  rw [← hpp] at hp hE
  rw [← hcc] at hc hE
  have HN := Lib.hid hn
  have HP := Lib.hid hp
  have HC := Lib.hid hc
  have HE := Lib.hid hE
  clear hn hp hc hE hr hb hpp hcc hfn hfd ht
  by_cases h1 : dv < 0
  · have HR := Lib.hid (show r = 3 by rw [HE.out, if_pos (.inl h1)])
    go_enter Tryz.func44, Tryz.ntmps44
    go_wp2
    go_ret
    exact ⟨ret_int HR.out.symm, bw_new (Below.refl _ w) _⟩
  · by_cases h2 : 8 ≤ dv
    · have HR := Lib.hid (show r = 3 by rw [HE.out, if_pos (.inr h2)])
      go_enter Tryz.func44, Tryz.ntmps44
      go_wp2
      go_ret
      exact ⟨ret_int HR.out.symm, bw_new (Below.refl _ w) _⟩
    · have h1' : 0 ≤ dv := by omega
      have h2' : dv < 8 := by omega
      cases b with
      | false =>
        have HR := Lib.hid (show r = 8 by rw [HE.out, if_neg (by omega), if_pos rfl])
        go_enter Tryz.func44, Tryz.ntmps44
        go_wp2_with fail
        refine (HN.out _).mono ?_
        rintro e w' ⟨rfl, rfl⟩
        go_wp2
        go_ret
        exact ⟨ret_int HR.out.symm, bw_new (Below.refl _ w) _⟩
      | true =>
        by_cases h3 : p = 0
        · have HR := Lib.hid (show r = c by rw [HE.out, if_neg (by omega), if_neg (by decide), if_neg (by omega)])
          have hz : (p == 0) = true := by simpa using h3
          have hz2 : (p != 0) = false := by simpa using h3
          clear h3
          go_enter Tryz.func44, Tryz.ntmps44
          go_wp2_with fail
          refine (HN.out _).mono ?_
          rintro e w' ⟨rfl, rfl⟩
          go_wp2_with fail
          refine (HP.out _).mono ?_
          rintro e w1 ⟨rfl, hb1⟩
          obtain ⟨hc1, hf1⟩ := bcell hb1
          go_wp2_with fail
          refine (HC.out _).mono ?_
          rintro e w2 ⟨rfl, hb2⟩
          go_wp2
          go_ret
          exact ⟨ret_int HR.out.symm, ((bw_new (Below.refl _ w) _).trans (hb1.mono (by simp))).trans (hb2.mono (by have := hb1.size; simp at this; omega))⟩
        · have HR := Lib.hid (show r = p by rw [HE.out, if_neg (by omega), if_neg (by decide), if_pos h3])
          have hz : (p == 0) = false := by simpa using h3
          have hz2 : (p != 0) = true := by simpa using h3
          clear h3
          go_enter Tryz.func44, Tryz.ntmps44
          go_wp2_with fail
          refine (HN.out _).mono ?_
          rintro e w' ⟨rfl, rfl⟩
          go_wp2_with fail
          refine (HP.out _).mono ?_
          rintro e w1 ⟨rfl, hb1⟩
          go_wp2
          go_ret
          exact ⟨ret_int HR.out.symm, (bw_new (Below.refl _ w) _).trans (hb1.mono (by simp))⟩

/-- Whether a number falls out of a row. -/
theorem rd_at {w : World} {Bd : Nat} {A : Option Addr} {L : List Int} (h : Rd i64v w Bd A L) (hl : 0 < L.length) : ∃ b off, A = some ⟨b, off, none⟩ ∧ b < Bd ∧ ∀ i (hi : i < L.length), w.cell? ⟨b, off + i, none⟩ = some (.int .i64 L[i]) := h hl
theorem getLast_take {α : Type} (l : List α) (k : Nat) (h : k < l.length) : (l.take (k + 1)).getLast? = some l[k] := by
  rw [take_snoc l k h]; exact List.getLast?_concat
theorem sq_step {top e : Int} {l : List Int} {k : Nat} (h : k < l.length) (h0 : ¬ (l[k] < 0 ∨ top ≤ l[k])) (h1 : lastLe (l.take k).getLast? l[k] = false) :
    sqE top e (l.take k).getLast? (l.drop k) = sqE top e (l.take (k + 1)).getLast? (l.drop (k + 1)) := by
  rw [drop_cons l k h, sqE_cons, if_neg h0, h1, getLast_take l k h]; rfl
theorem sq_bad {top e : Int} {l : List Int} {k : Nat} (h : k < l.length) (h0 : l[k] < 0 ∨ top ≤ l[k]) : sqE top e (l.take k).getLast? (l.drop k) = e := by
  rw [drop_cons l k h, sqE_cons, if_pos h0]
theorem sq_ord {top e : Int} {l : List Int} {k : Nat} (h : k < l.length) (h0 : ¬ (l[k] < 0 ∨ top ≤ l[k])) (h1 : lastLe (l.take k).getLast? l[k] = true) : sqE top e (l.take k).getLast? (l.drop k) = 6 := by
  rw [drop_cons l k h, sqE_cons, if_neg h0, h1, if_pos rfl]
theorem last_zero (l : List Int) (x : Int) : lastLe (l.take 0).getLast? x = false := by simp [lastLe]
theorem last_succ (l : List Int) (k : Nat) (h : k < l.length) (x : Int) : lastLe (l.take (k + 1)).getLast? x = decide (x ≤ l[k]) := by rw [getLast_take l k h]; rfl

set_option maxRecDepth 100000 in
set_option maxHeartbeats 2000000 in
/-- right: the error of a group. -/
theorem right_any (A : Option Addr) (n cap : Nat) (B : Option Addr) (m c2 : Nat) (g : List Int) (G : Option Addr) (gn gc Bd : Nat) (w : World)
    (hg : g.length = gn) (hgr : Rd i64v w Bd G g) (hgc : gn ≤ gc) (hgm : gc ≤ maxLen) (hB : Bd ≤ w.heap.size) :
    Calls Tryz.prog 42 #[.agg #[.slice A n cap, .slice B m c2], .slice G gn gc] w fun e w' => e = .returned (.int .i64 (gpE n g)) ∧ Below w.heap.size w w' := by
  subst hg
  unfold maxLen at hgm
  by_cases h0 : g.length = 0
  · have HE := Lib.hid (show gpE n g = 13 from if_pos h0)
    have h0' : ((g.length : Int) == 0) = true := by rw [beq_iff_eq]; omega
    go_enter Tryz.func42, Tryz.ntmps42
    go_wp2
    go_ret
    exact ⟨ret_int HE.out.symm, bw_new (Below.refl _ w) _⟩
  · have HE := Lib.hid (show gpE n g = sqE n 10 none g from if_neg h0)
    have h0' : ((g.length : Int) == 0) = false := by rw [beq_eq_false_iff_ne]; omega
    obtain ⟨b, off, rfl, hb, hc⟩ := rd_at hgr (by omega)
    have HC := Lib.hid hc
    have hbw : b < w.heap.size := by omega
    clear hc h0 hgr
    go_enter Tryz.func42, Tryz.ntmps42
    go_wp2
    go_loop [12] (fun v => ∃ k : Nat, k ≤ g.length ∧ v = .int .i64 k ∧ gpE n g = sqE n 10 (g.take k).getLast? (g.drop k)) (fun v => g.length - (intOf v).toNat)
    case atStart => exact ⟨0, by omega, rfl, by rw [HE.out]; rfl⟩
    case round =>
      obtain ⟨k, hk, rfl, ho⟩ := hrel
      have HO := Lib.hid ho
      clear ho
      by_cases hlt : k < g.length
      · have hck : w.cell? ⟨b, off + k, none⟩ = some (.int .i64 g[k]) := HC.out k hlt
        obtain ⟨x, hx⟩ : ∃ x, x = g[k] := ⟨_, rfl⟩
        rw [← hx] at hck
        have HX := Lib.hid hx
        clear hx
        by_cases h1 : x < 0
        · have HR := Lib.hid (show gpE n g = 10 by rw [HO.out, sq_bad hlt (by rw [← HX.out]; exact .inl h1)])
          go_wp2
          go_ret
          exact ⟨ret_int HR.out.symm, bw_new (Below.refl _ w) _⟩
        · by_cases h2 : (n : Int) ≤ x
          · have HR := Lib.hid (show gpE n g = 10 by rw [HO.out, sq_bad hlt (by rw [← HX.out]; exact .inr h2)])
            go_wp2
            go_ret
            exact ⟨ret_int HR.out.symm, bw_new (Below.refl _ w) _⟩
          · have h1' : 0 ≤ x := by omega
            have h2' : x < (n : Int) := by omega
            have HN := Lib.hid (show ¬ (g[k] < 0 ∨ (n : Int) ≤ g[k]) by rw [← HX.out]; omega)
            cases k with
            | zero =>
              rw [Nat.add_zero] at hck
              have HS := Lib.hid (sq_step (e := 10) hlt HN.out (last_zero g _))
              go_wp2
              go_round
              case rel => exact ⟨1, by omega, rfl, by rw [HO.out, HS.out]⟩
              case measure => simp [intOf]; omega
            | succ j =>
              have hcj : w.cell? ⟨b, off + j, none⟩ = some (.int .i64 g[j]) := HC.out j (by omega)
              obtain ⟨y, hy⟩ : ∃ y, y = g[j]'(by omega) := ⟨_, rfl⟩
              rw [← hy] at hcj
              have HL := Lib.hid (last_succ g j (by omega) x)
              rw [HX.out] at HL
              have HY := Lib.hid hy
              clear hy
              by_cases h3 : x ≤ y
              · have HR := Lib.hid (show gpE n g = 6 by rw [HO.out, sq_ord hlt HN.out (by rw [HL.out, ← HX.out, ← HY.out]; exact decide_eq_true h3)])
                go_wp2
                go_ret
                exact ⟨ret_int HR.out.symm, bw_new (Below.refl _ w) _⟩
              · have h3' : y < x := by omega
                have HS := Lib.hid (sq_step (e := 10) hlt HN.out (by rw [HL.out, ← HX.out, ← HY.out]; exact decide_eq_false h3))
                go_wp2
                go_round
                case rel => exact ⟨j + 1 + 1, by omega, by go_num, by rw [HO.out, HS.out]⟩
                case measure => simp [intOf]; omega
      · have HR := Lib.hid (show gpE n g = 0 by rw [HO.out, List.drop_eq_nil_of_le (by omega)]; rfl)
        go_wp2
        go_ret
        exact ⟨ret_int HR.out.symm, bw_new (Below.refl _ w) _⟩

/-- The entries of the map of the names of some wishes. -/
def ents (L : List Wsh) : List (ByteArray × Value) := L.map fun x => (x.nm, .bool true)
def nms (L : List Wsh) : List ByteArray := L.map Wsh.nm
theorem seenB_cons (q : ByteArray) (L : List ByteArray) (n : ByteArray) : seenB (q :: L) n = (decide (q = n) || seenB L n) := rfl
theorem fnd_ents (L : List Wsh) (n : ByteArray) (i : Nat) : (seenB (nms L) n = true ∧ ∃ j, fnd n (ents L) i = some (j, .bool true)) ∨ (seenB (nms L) n = false ∧ fnd n (ents L) i = none) := by
  induction L generalizing i with
  | nil => right; exact ⟨rfl, rfl⟩
  | cons x r ih =>
    have e1 : nms (x :: r) = x.nm :: nms r := rfl
    have e2 : ents (x :: r) = (x.nm, .bool true) :: ents r := rfl
    rw [e1, e2, seenB_cons]
    unfold fnd
    by_cases h : n = x.nm
    · left
      rw [decide_eq_true h.symm, if_pos h]
      exact ⟨rfl, i, rfl⟩
    · rw [decide_eq_false (fun k => h k.symm), if_neg h]
      rcases ih (i + 1) with ⟨h1, j, h2⟩ | ⟨h1, h2⟩
      · left; exact ⟨by rw [h1]; rfl, j, h2⟩
      · right; exact ⟨by rw [h1]; rfl, h2⟩
theorem mget_ents (L : List Wsh) (n : ByteArray) : (mget (ents L) n).getD (.bool false) = .bool (seenB (nms L) n) := by
  unfold mget
  rcases fnd_ents L n 0 with ⟨h1, j, h2⟩ | ⟨h1, h2⟩
  · rw [h1, h2]; rfl
  · rw [h1, h2]; rfl
theorem mput_ents (L : List Wsh) (x : Wsh) (h : seenB (nms L) x.nm = false) : mput (ents L) x.nm (.bool true) = ents (L ++ [x]) := by
  unfold mput
  rcases fnd_ents L x.nm 0 with ⟨h1, j, h2⟩ | ⟨h1, h2⟩
  · rw [h1] at h; cases h
  · rw [h2]; simp [ents]
theorem look_names {W : World} {b : Nat} {L : List Wsh} (h : MapB (strKeys Tryz.underlying9) W b (ents L)) (nm : ByteArray) :
    (Instr.lookup 85 (.map (some b)) (.string nm) false).run Tryz.prog W = .ok (.bool (seenB (nms L) nm)) W := by
  have hlk := run_look (strKeys Tryz.underlying9) Tryz.underlying85 (z := .bool false) (fun w => by first | exact Tryz.zeroValue4 w | kernel_rfl) h nm false
  rw [if_neg (by decide), mget_ents] at hlk
  exact hlk
theorem store_names {W : World} {b : Nat} {L : List Wsh} (h : MapB (strKeys Tryz.underlying9) W b (ents L)) (x : Wsh) (hs : seenB (nms L) x.nm = false) :
    ∃ w', (Instr.mapUpdate 85 (.map (some b)) (.string x.nm) (.bool true)).run Tryz.prog W = .ok () w' ∧ MapB (strKeys Tryz.underlying9) w' b (ents (L ++ [x])) ∧ W.grownBy w' (some b) := by
  obtain ⟨w', h1, h2, h3⟩ := run_store (strKeys Tryz.underlying9) Tryz.underlying85 h x.nm (.bool true)
  rw [mput_ents L x hs] at h2
  exact ⟨w', h1, h2, h3⟩
theorem nms_snoc (L : List Wsh) (x : Wsh) : nms (L ++ [x]) = nms L ++ [x.nm] := by simp [nms]
theorem ws_step {ws : List Wsh} {k : Nat} (h : k < ws.length) (h0 : nameB ws[k].nm = true) (h1 : seenB (nms (ws.take k)) ws[k].nm = false) (h2 : wE ws[k] = 0) :
    wsE (nms (ws.take k)) (ws.drop k) = wsE (nms (ws.take (k + 1))) (ws.drop (k + 1)) := by
  rw [drop_cons ws k h, wsE_cons, h0, h1, h2, take_snoc ws k h, nms_snoc]; rfl
theorem ws_name {ws : List Wsh} {k : Nat} (h : k < ws.length) (h0 : nameB ws[k].nm = false) (seen : List ByteArray) : wsE seen (ws.drop k) = 8 := by
  rw [drop_cons ws k h, wsE_cons, h0]; rfl
theorem ws_dup {ws : List Wsh} {k : Nat} (h : k < ws.length) (h0 : nameB ws[k].nm = true) {seen : List ByteArray} (h1 : seenB seen ws[k].nm = true) : wsE seen (ws.drop k) = 9 := by
  rw [drop_cons ws k h, wsE_cons, h0, h1]; rfl
theorem ws_err {ws : List Wsh} {k : Nat} (h : k < ws.length) (h0 : nameB ws[k].nm = true) {seen : List ByteArray} (h1 : seenB seen ws[k].nm = false) (h2 : wE ws[k] ≠ 0) : wsE seen (ws.drop k) = wE ws[k] := by
  rw [drop_cons ws k h, wsE_cons, h0, h1, if_pos h2]; rfl

/-- A boxed wish: its cells. -/
theorem Blk.wish {w : World} {g : Nat} {t : TypeId} {nm : ByteArray} {dv : Int} {tn : ByteArray} {fn fd lo hi : Int} (h : Blk w g t [.string nm, .int .i64 dv, .string tn, .int .i64 fn, .int .i64 fd, .int .i64 lo, .int .i64 hi]) :
    w.cell? ⟨g, 0, none⟩ = some (.string nm) ∧ w.cell? ⟨g, 1, none⟩ = some (.int .i64 dv) ∧ w.cell? ⟨g, 2, none⟩ = some (.string tn) ∧ w.cell? ⟨g, 3, none⟩ = some (.int .i64 fn) ∧ w.cell? ⟨g, 4, none⟩ = some (.int .i64 fd) ∧
      w.cell? ⟨g, 5, none⟩ = some (.int .i64 lo) ∧ w.cell? ⟨g, 6, none⟩ = some (.int .i64 hi) :=
  ⟨h.cell 0, h.cell 1, h.cell 2, h.cell 3, h.cell 4, h.cell 5, h.cell 6⟩
theorem Blk.two {w : World} {g : Nat} {t : TypeId} {a b : Value} (h : Blk w g t [a, b]) : w.cell? ⟨g, 0, none⟩ = some a ∧ w.cell? ⟨g, 1, none⟩ = some b := ⟨h.cell 0, h.cell 1⟩
theorem Blk.new {w : World} {t : TypeId} {cs : List Value} : Blk (w.alloc (.cells cs.toArray t)) w.heap.size t cs := heap_alloc_new w _
theorem Blk.keep {w w' : World} {g : Nat} {t : TypeId} {cs : List Value} (h : Blk w g t cs) (hb : Below w.heap.size w w') : Blk w' g t cs := h.below hb h.lt
theorem Blk.grown {w w' : World} {g : Nat} {t : TypeId} {cs : List Value} {row : Option Nat} (h : Blk w g t cs) (hb : w.grownBy w' row) (hg : some g ≠ row) : Blk w' g t cs := (hb.block g h.lt hg).trans h

/-- What holds at the head of the loop over the wishes. -/
def ChkRel (w : World) (Bd : Nat) (A : Option Addr) (n cap : Nat) (B : Option Addr) (m c2 : Nat) (ws : List Wsh) (rules : List Int) (k : Nat) (wr : World) : Prop :=
  k ≤ n ∧ wsE [] ws = wsE (nms (ws.take k)) (ws.drop k) ∧ MapB (strKeys Tryz.underlying9) wr (w.heap.size + 1) (ents (ws.take k)) ∧ Blk wr w.heap.size 29 [.slice A n cap, .slice B m c2] ∧
    Pb wr Bd A n cap B m c2 ws rules ∧ Below w.heap.size w wr ∧ w.heap.size + 2 ≤ wr.heap.size

set_option maxRecDepth 100000 in
set_option maxHeartbeats 4000000 in
/-- Check: the error of a problem. -/
theorem wcheck_any (A : Option Addr) (n cap : Nat) (B : Option Addr) (m c2 : Nat) (ws : List Wsh) (rules : List Int) (Bd : Nat) (w : World) (hp : Pb w Bd A n cap B m c2 ws rules) (hB : Bd ≤ w.heap.size) :
    Calls Tryz.prog 32 #[.agg #[.slice A n cap, .slice B m c2]] w fun e w' => e = .returned (.int .i64 (pbE ws rules)) ∧ Below w.heap.size w w' := by
  have hl := hp.wl
  have hcm := hp.wm
  have hnc := hp.wc
  unfold maxLen at hcm
  by_cases h0 : 12 < n
  · have HE := Lib.hid (show pbE ws rules = 4 by unfold pbE; rw [if_pos (by omega)])
    clear hp hl
    go_enter Tryz.func32, Tryz.ntmps32
    go_wp2
    go_ret
    exact ⟨ret_int HE.out.symm, bw_new (Below.refl _ w) _⟩
  · have HE := Lib.hid (show pbE ws rules = if wsE [] ws ≠ 0 then wsE [] ws else if 48 < rules.length then 4 else sqE 128 3 none rules by unfold pbE; rw [if_neg (by omega)])
    have hn12 : n ≤ 12 := by omega
    have HL := Lib.hid hl
    have HP := Lib.hid hp
    have hmm := @run_makeMap Tryz.prog
    clear hl hp h0
    go_enter Tryz.func32, Tryz.ntmps32
    go_wp2_with fail
    clear hmm
    go_loopw [17] (fun v wr => ∃ k : Nat, v = .int .i64 k ∧ ChkRel w Bd A n cap B m c2 ws rules k wr) (fun v _ => n - (intOf v).toNat)
    case atStart =>
      have hb0 := bw_new (bw_new (Below.refl _ w) (.cells #[.slice A n cap, .slice B m c2] 29)) (.map #[] 0)
      refine ⟨0, rfl, by omega, rfl, ?_, ?_, HP.out.keep hB hb0, hb0, by simp⟩
      · have := MapB.new (strKeys Tryz.underlying9) (w.alloc (.cells #[.slice A n cap, .slice B m c2] 29))
        rw [World.size_alloc] at this
        exact this
      · exact (Blk.new (cs := [.slice A n cap, .slice B m c2])).alloc _
    case round =>
      obtain ⟨k, rfl, hk, ho, hm, hbx, hpr, hb, hs⟩ := hrel
      have HO := Lib.hid ho
      have HM := Lib.hid hm
      have HBX := Lib.hid hbx
      have HPR := Lib.hid hpr
      have HB := Lib.hid hb
      clear ho hm hbx hpr hb
      by_cases hlt : k < n
      · have hlt' : k < ws.length := by rw [HL.out]; exact hlt
        obtain ⟨b, off, rfl, hbd, hcell⟩ := HPR.out.wr.at_ (by omega)
        obtain ⟨hI1, hI2, hI3, hI4⟩ := HPR.out.ok ws[k] (List.getElem_mem hlt')
        have hat := hcell k hlt'
        obtain ⟨x, hx⟩ : ∃ x, x = ws[k] := ⟨_, rfl⟩
        rw [← hx] at hat hI1 hI2 hI3 hI4
        have HX := Lib.hid hx
        clear hx hcell
        obtain ⟨nm, dv, tn, fn, fd, lo, hi⟩ := x
        obtain ⟨a0, a1, a2, a3, a4, a5, a6⟩ := hat
        dsimp only at a0 a1 a2 a3 a4 a5 a6 hI1 hI2 hI3 hI4
        have hName := Lib.hid (fun W => name_any nm W hI3)
        have hChk := Lib.hid (fun W => wchk_any nm dv tn fn fd lo hi W hI1 hI2 hI4)
        obtain ⟨p0, p1⟩ := HBX.out.two
        have hbw : b < wr.heap.size := by omega
        have hxn : ws[k].nm = nm := by rw [← HX.out]
        have hxe : wE ws[k] = wE ⟨nm, dv, tn, fn, fd, lo, hi⟩ := by rw [← HX.out]
        have HXN := Lib.hid hxn
        have HXE := Lib.hid hxe
        clear hI1 hI2 hI3 hI4 hxn hxe
        cases hq : nameB nm with
        | false =>
          have hN := hName.out
          rw [hq] at hN
          have hN := Lib.hid hN
          have HR := Lib.hid (show pbE ws rules = 8 by
            rw [HE.out, HO.out, ws_name hlt' (by rw [HXN.out]; exact hq)]; rfl)
          clear hq hName
          go_wp2_with fail
          refine (hN.out _).mono ?_
          rintro e w' ⟨rfl, rfl⟩
          go_wp2
          go_ret
          exact ⟨ret_int HR.out.symm, bw_new HB.out _⟩
        | true =>
          have hN := hName.out
          rw [hq] at hN
          have hN := Lib.hid hN
          have HQ := Lib.hid (show nameB ws[k].nm = true by rw [HXN.out]; exact hq)
          have hM1 := HM.out.alloc (strKeys Tryz.underlying9) (.cells #[.string nm, .int .i64 dv, .string tn, .int .i64 fn, .int .i64 fd, .int .i64 lo, .int .i64 hi] 51)
          have hlk := look_names hM1 nm
          cases hsb : seenB (nms (ws.take k)) nm with
          | true =>
            rw [hsb] at hlk
            have HLK := Lib.hid hlk
            have HR := Lib.hid (show pbE ws rules = 9 by
              rw [HE.out, HO.out, ws_dup hlt' HQ.out (by rw [HXN.out]; exact hsb)]; rfl)
            clear hq hName hlk hsb
            go_wp2_with fail
            refine (hN.out _).mono ?_
            rintro e w' ⟨rfl, rfl⟩
            go_wp2_with fail
            rw [HLK.out]
            simp only [Result.andThen]
            rw [Oper.upon_value]
            go_wp2
            go_ret
            exact ⟨ret_int HR.out.symm, bw_new HB.out _⟩
          | false =>
            rw [hsb] at hlk
            have HLK := Lib.hid hlk
            obtain ⟨w3, hst, hM3, hg3⟩ := store_names hM1 ⟨nm, dv, tn, fn, fd, lo, hi⟩ hsb
            have HST := Lib.hid hst
            have hX3 : Blk w3 wr.heap.size 51 [.string nm, .int .i64 dv, .string tn, .int .i64 fn, .int .i64 fd, .int .i64 lo, .int .i64 hi] := (Blk.new (w := wr)).grown hg3 (by simp; omega)
            have hP3 := (HBX.out.alloc (.cells #[.string nm, .int .i64 dv, .string tn, .int .i64 fn, .int .i64 fd, .int .i64 lo, .int .i64 hi] 51)).grown hg3 (by simp)
            have hb3 := (bw_new HB.out (.cells #[.string nm, .int .i64 dv, .string tn, .int .i64 fn, .int .i64 fd, .int .i64 lo, .int .i64 hi] 51)).grown hg3 (by simp; omega) (by intro r e; cases e; omega)
            have hs3 : wr.heap.size + 1 ≤ w3.heap.size := by have := hg3.size; simp at this; omega
            have hpr3 := (HPR.out.alloc (by omega) (.cells #[.string nm, .int .i64 dv, .string tn, .int .i64 fn, .int .i64 fd, .int .i64 lo, .int .i64 hi] 51)).below (((Below.refl Bd _).grown hg3 (by simp; omega) (by intro r e; cases e; omega)))
            have HX3 := Lib.hid hX3
            have HP3 := Lib.hid hP3
            have HB3 := Lib.hid hb3
            have HM3 := Lib.hid hM3
            have HPR3 := Lib.hid hpr3
            have HSB := Lib.hid (show seenB (nms (ws.take k)) ws[k].nm = false by rw [HXN.out]; exact hsb)
            obtain ⟨x0, x1, x2, x3, x4, x5, x6⟩ := HX3.out.wish
            clear hq hName hlk hsb hst hX3 hP3 hb3 hM3 hpr3 hM1
            go_wp2_with fail
            refine (hN.out _).mono ?_
            rintro e w' ⟨rfl, rfl⟩
            go_wp2_with fail
            rw [HLK.out]
            simp only [Result.andThen]
            rw [Oper.upon_value]
            go_wp2_with fail
            rw [HST.out]
            simp only [Result.andThen]
            rw [Oper.upon_skip]
            clear a0 a1 a2 a3 a4 a5 a6
            go_wp2_with fail
            refine (hChk.out _).mono ?_
            rintro e w4 ⟨rfl, hb4⟩
            have HM4 := Lib.hid (HM3.out.below (strKeys Tryz.underlying9) hb4 (HM3.out.lt _))
            have HP4 := Lib.hid (HP3.out.keep hb4)
            have HPR4 := Lib.hid (HPR3.out.keep (by omega) hb4)
            have HB4 := Lib.hid (HB3.out.trans (hb4.mono HB3.out.size))
            have hs4 : w.heap.size + 2 ≤ w4.heap.size := by have := hb4.size; omega
            obtain ⟨z, hz⟩ : ∃ z, z = wE ⟨nm, dv, tn, fn, fd, lo, hi⟩ := ⟨_, rfl⟩
            rw [← hz]
            have HZ := Lib.hid (hz.trans HXE.out.symm)
            clear hz hb4 x0 x1 x2 x3 x4 x5 x6
            by_cases hz0 : z = 0
            · have hz1 : (z == 0) = true := by simpa using hz0
              have hz2 : (z != 0) = false := by simpa using hz0
              have HS := Lib.hid (ws_step hlt' HQ.out HSB.out (by rw [← HZ.out]; exact hz0))
              clear hz0
              go_wp2
              go_roundw
              case rel =>
                refine ⟨k + 1, by go_num, by omega, by rw [HO.out, HS.out], ?_, HP4.out, HPR4.out, HB4.out, hs4⟩
                rw [take_snoc ws k hlt', ← HX.out]
                exact HM4.out
              case measure => simp [intOf]; omega
            · have hz1 : (z == 0) = false := by simpa using hz0
              have hz2 : (z != 0) = true := by simpa using hz0
              have HR := Lib.hid (show pbE ws rules = z by
                have h1 := ws_err hlt' HQ.out HSB.out (by rw [← HZ.out]; exact hz0)
                rw [HE.out, HO.out, h1, ← HZ.out, if_pos hz0])
              clear hz0
              go_wp2
              go_ret
              exact ⟨ret_int HR.out.symm, HB4.out⟩
      · have hkn : k = n := by omega
        subst hkn
        have hE2 : pbE ws rules = if 48 < rules.length then 4 else sqE 128 3 none rules := by
          rw [HE.out, HO.out, List.drop_eq_nil_of_le (by rw [HL.out]; exact Nat.le_refl _)]
          rfl
        have HE2 := Lib.hid hE2
        obtain ⟨p0, p1⟩ := HBX.out.two
        have hml := HPR.out.rl
        have hmc := HPR.out.rc
        have hmm := HPR.out.rm
        unfold maxLen at hmm
        clear hE2
        by_cases hm48 : 48 < m
        · have HR := Lib.hid (show pbE ws rules = 4 by rw [HE2.out, if_pos (by omega)])
          clear hml
          go_wp2
          go_ret
          exact ⟨ret_int HR.out.symm, HB.out⟩
        · have HE3 := Lib.hid (show pbE ws rules = sqE 128 3 none rules by rw [HE2.out, if_neg (by omega)])
          have HML := Lib.hid hml
          clear hml
          go_wp2
          go_loop [47] (fun v => ∃ j : Nat, j ≤ m ∧ v = .int .i64 j ∧ pbE ws rules = sqE 128 3 (rules.take j).getLast? (rules.drop j)) (fun v => m - (intOf v).toNat)
          case atStart => exact ⟨0, by omega, rfl, by rw [HE3.out]; rfl⟩
          case round =>
            obtain ⟨j, hj, rfl, ho⟩ := hrel
            have HO := Lib.hid ho
            clear ho
            by_cases hlt : j < m
            · have hltr : j < rules.length := by rw [HML.out]; exact hlt
              obtain ⟨b, off, rfl, hb, hc⟩ := rd_at HPR.out.rr (by omega)
              have hcj := hc j hltr
              obtain ⟨x, hx⟩ : ∃ x, x = rules[j] := ⟨_, rfl⟩
              rw [← hx] at hcj
              have HX := Lib.hid hx
              have HC := Lib.hid hc
              clear hx hc
              by_cases h1 : x < 0
              · have HR := Lib.hid (show pbE ws rules = 3 by rw [HO.out, sq_bad hltr (by rw [← HX.out]; exact .inl h1)])
                go_wp2
                go_ret
                exact ⟨ret_int HR.out.symm, HB.out⟩
              · by_cases h2 : 128 ≤ x
                · have HR := Lib.hid (show pbE ws rules = 3 by rw [HO.out, sq_bad hltr (by rw [← HX.out]; exact .inr h2)])
                  go_wp2
                  go_ret
                  exact ⟨ret_int HR.out.symm, HB.out⟩
                · have h1' : 0 ≤ x := by omega
                  have h2' : x ≤ 127 := by omega
                  have HN := Lib.hid (show ¬ (rules[j] < 0 ∨ 128 ≤ rules[j]) by rw [← HX.out]; omega)
                  cases j with
                  | zero =>
                    rw [Nat.add_zero] at hcj
                    have HS := Lib.hid (sq_step (e := 3) hltr HN.out (last_zero rules _))
                    go_wp2
                    go_round
                    case rel => exact ⟨1, by omega, rfl, by rw [HO.out, HS.out]⟩
                    case measure => simp [intOf]; omega
                  | succ i =>
                    have hci : wr.cell? ⟨b, off + i, none⟩ = some (.int .i64 rules[i]) := HC.out i (by omega)
                    obtain ⟨y, hy⟩ : ∃ y, y = rules[i]'(by omega) := ⟨_, rfl⟩
                    rw [← hy] at hci
                    have hL := last_succ rules i (by omega) x
                    rw [HX.out] at hL
                    have HLs := Lib.hid hL
                    have HY := Lib.hid hy
                    clear hy hL
                    by_cases h3 : x ≤ y
                    · have HR := Lib.hid (show pbE ws rules = 6 by rw [HO.out, sq_ord hltr HN.out (by rw [HLs.out, ← HX.out, ← HY.out]; exact decide_eq_true h3)])
                      go_wp2
                      go_ret
                      exact ⟨ret_int HR.out.symm, HB.out⟩
                    · have h3' : y < x := by omega
                      have HS := Lib.hid (sq_step (e := 3) hltr HN.out (by rw [HLs.out, ← HX.out, ← HY.out]; exact decide_eq_false h3))
                      go_wp2
                      go_round
                      case rel => exact ⟨i + 1 + 1, by omega, by go_num, by rw [HO.out, HS.out]⟩
                      case measure => simp [intOf]; omega
            · have HR := Lib.hid (show pbE ws rules = 0 by rw [HO.out, List.drop_eq_nil_of_le (by rw [HML.out]; omega)]; rfl)
              go_wp2
              go_ret
              exact ⟨ret_int HR.out.symm, HB.out⟩
end Go.Proofs.YtkamepalomkpbaaGreatDoor
