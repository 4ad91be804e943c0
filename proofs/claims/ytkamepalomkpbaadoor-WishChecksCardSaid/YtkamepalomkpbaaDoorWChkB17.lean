/- Part 17 of 22 of the proof of the law: contracts of the functions that it reaches, and plain facts. Conditions: those that each contract names. -/
import Derived.Test.YtkamepalomkpbaaDoorWChkB15
import Derived.Test.YtkamepalomkpbaaDoorWChkB16
import Derived.Deep.AppendLies
import Derived.Test.YtkamepalomkpbaaDoorWChkB06
namespace Go.Proofs.YtkamepalomkpbaaDoor
open Go.RowKit
set_option maxRecDepth 100000 in
theorem feet_any (n : Int) (w : World) : Calls Tryd.prog 36 #[.int .i64 n] w fun e w' => e = .returned (.agg #[.int .i64 n, .int .i64 1]) ∧ Below w.heap.size w w' := by
  go_enter Tryd.func36, Tryd.ntmps36
  go_wp2
  refine bodyPost_ret (v := .agg #[.int .i64 n, .int .i64 1]) (by simp [results, Tryd.results36, go_sem]) rfl ⟨rfl, ?_⟩
  exact bw_new (Below.refl _ _) _
def flute : ByteArray := ⟨#[102, 108, 117, 116, 101]⟩
def wDig (i : Nat) : ByteArray := ⟨#[UInt8.ofNat (48 + i)]⟩
def wName (i : Nat) : ByteArray := ⟨#[119]⟩ ++ wDig i
def exW (i : Nat) (n : Int) : Wsh := ⟨wName i, 0, flute, n, 1, 36, 96⟩
def exWs : Nat → List Int → List Wsh
  | _, [] => []
  | i, n :: r => exW i n :: exWs (i + 1) r
theorem exWs_append (i : Nat) (l m : List Int) : exWs i (l ++ m) = exWs i l ++ exWs (i + l.length) m := by
  induction l generalizing i with
  | nil => simp [exWs]
  | cons x r ih => simp [exWs, ih]; congr 1; omega
theorem exWs_snoc (l : List Int) (k : Nat) (h : k < l.length) : exWs 0 (l.take (k + 1)) = exWs 0 (l.take k) ++ [exW k l[k]] := by
  rw [take_snoc l k h, exWs_append, List.length_take]
  rw [show 0 + min k l.length = k by omega]
  rfl
theorem exWs_length (i : Nat) (l : List Int) : (exWs i l).length = l.length := by
  induction l generalizing i with
  | nil => rfl
  | cons x r ih => simp [exWs, ih]
def wsCells (ws : List Wsh) : List Value := ws.flatMap Wsh.cells
theorem wsCells_snoc (ws : List Wsh) (x : Wsh) : wsCells (ws ++ [x]) = wsCells ws ++ x.cells := by simp [wsCells]
theorem wsCells_get (ws : List Wsh) (k : Nat) (h : k < ws.length) (j : Nat) (hj : j < 7) : (wsCells ws)[k * 7 + j]? = (ws[k].cells)[j]? := by
  induction ws generalizing k with
  | nil => simp at h
  | cons x r ih =>
    have e : wsCells (x :: r) = x.cells ++ wsCells r := rfl
    have hl : x.cells.length = 7 := rfl
    cases k with
    | zero => rw [e, Nat.zero_mul, Nat.zero_add, List.getElem?_append_left (by omega)]; rfl
    | succ k =>
      rw [e, List.getElem?_append_right (by omega), hl, show (k + 1) * 7 + j - 7 = k * 7 + j by omega]
      exact ih k (by simpa using h)
theorem infoWish : (Tryd.prog.info? 48).map (fun i => (i.zero, i.size, i.bytes)) = some (some (.agg #[.string ⟨#[]⟩, .int .i64 0, .string ⟨#[]⟩, .int .i64 0, .int .i64 0, .int .i64 0, .int .i64 0]), 7, 72) := by kernel_rfl
theorem WRd.of_own {w : World} {base n c m : Nat} {A : Option Addr} {ws : List Wsh} (h : w.ownsRow base 48 7 (.slice A n c) m (wsCells ws)) (hn : m = ws.length) : WRd w w.heap.size A ws := fun hl => by
  rcases h.2 with ⟨hv, h0⟩ | ⟨g, cap, cur, hv, hb, hg, hnc, _, hs, ht⟩
  · omega
  · injection hv with h1 h2 h3
    subst h1
    have hlt : g < w.heap.size := by
      rcases Nat.lt_or_ge g w.heap.size with hlt | hge
      · exact hlt
      · rw [Array.getElem?_eq_none hge] at hg; cases hg
    refine ⟨g, 0, rfl, hlt, fun i hi => ?_⟩
    have key : ∀ j, j < 7 → w.cell? ⟨g, 0 + i * 7 + j, none⟩ = (ws[i].cells)[j]? := fun j hj => by
      rw [cell_of_row w g _ cur 48 (0, 0) hg, Nat.zero_add, ← wsCells_get ws i hi j hj, ← ht, List.getElem?_take, if_pos (by omega)]
      simp
    exact ⟨key 0 (by omega), key 1 (by omega), key 2 (by omega), key 3 (by omega), key 4 (by omega), key 5 (by omega), key 6 (by omega)⟩
theorem own_below {w w' : World} {base : Nat} {e : TypeId} {size n : Nat} {v : Value} {xs : List Value} (h : w.ownsRow base e size v n xs) (hb : Below w.heap.size w w') : w'.ownsRow base e size v n xs := by
  refine ⟨h.1, ?_⟩
  rcases h.2 with h0 | ⟨g, cap, cur, hv, hbs, hg, hr⟩
  · exact .inl h0
  · right
    have hlt : g < w.heap.size := by
      rcases Nat.lt_or_ge g w.heap.size with hlt | hge
      · exact hlt
      · rw [Array.getElem?_eq_none hge] at hg; cases hg
    exact ⟨g, cap, cur, hv, hbs, (hb.block g hlt).trans hg, hr⟩
theorem own_far {w : World} {base : Nat} {e : TypeId} {size n : Nat} {v : Value} {xs : List Value} (h : w.ownsRow base e size v n xs) {p : Addr} (hp : ∀ q, v.ownBlock = some q → q ≠ p.block) (u : Value) : (w.setCell p u).ownsRow base e size v n xs := by
  refine ⟨h.1, ?_⟩
  rcases h.2 with h0 | ⟨g, cap, cur, hv, hbs, hg, hr⟩
  · exact .inl h0
  · right
    have hne : g ≠ p.block := hp g (by rw [hv]; rfl)
    exact ⟨g, cap, cur, hv, hbs, (Below.heap_setCell w p u g hne).trans hg, hr⟩
def ExRel (w : World) (R : Value) (sv : Value) (k : Nat) (L : List Int) (LA : Option Addr) (wr : World) : Prop :=
  wr.ownsRow (w.heap.size + 2) 48 7 sv k (wsCells (exWs 0 (L.take k))) ∧ Blk wr w.heap.size 29 [.slice none 0 0, .slice none 0 0] ∧ Blk wr (w.heap.size + 1) 29 [sv, R] ∧
    Rd i64v wr w.heap.size LA L ∧ Below w.heap.size w wr ∧ w.heap.size + 2 ≤ wr.heap.size
theorem ExRel.below {w wr w' : World} {R sv : Value} {k : Nat} {L : List Int} {LA : Option Addr} (h : ExRel w R sv k L LA wr) (hb : Below wr.heap.size wr w') : ExRel w R sv k L LA w' := by
  obtain ⟨h1, h2, h3, h4, h5, h6⟩ := h
  exact ⟨own_below h1 hb, h2.keep hb, h3.keep hb, h4.below (hb.mono (by omega)), h5.trans (hb.mono h5.size), by have := hb.size; omega⟩
set_option maxRecDepth 100000 in
set_option maxHeartbeats 4000000 in
theorem example_any (RB : Option Addr) (rm rc : Nat) (LA : Option Addr) (n c : Nat) (L : List Int) (w : World) (hL : L.length = n) (hn : n ≤ 9) (hr : Rd i64v w w.heap.size LA L) :
    Calls Tryd.prog 21 #[.slice RB rm rc, .slice LA n c] w fun e w' => ∃ A cap, e = .returned (.agg #[.slice A n cap, .slice RB rm rc]) ∧ n ≤ cap ∧ cap ≤ maxLen ∧ WRd w' w'.heap.size A (exWs 0 L) ∧ Below w.heap.size w w' := by
  obtain ⟨i0, hi, hz0, hz1, hz2⟩ := info_parts infoWish
  have HHI := Lib.hid hi
  have HZ0 := Lib.hid hz0
  have HZ1 := Lib.hid hz1
  have HZ2 := Lib.hid hz2
  have HL := Lib.hid hL
  have hb0 := (bw_new (bw_new (Below.refl _ w) (.cells #[.slice none 0 0, .slice none 0 0] 29)) (.cells #[.slice none 0 0, .slice RB rm rc] 29))
  have hrel : ExRel w (.slice RB rm rc) (.slice none 0 0) 0 L LA ((w.alloc (.cells #[.slice none 0 0, .slice none 0 0] 29)).alloc (.cells #[.slice none 0 0, .slice RB rm rc] 29)) := by
    refine ⟨World.ownsRow_nil _ _ _ _, Blk.new.alloc _, ?_, hr.below hb0, hb0, by simp⟩
    have := Blk.new (w := w.alloc (.cells #[.slice none 0 0, .slice none 0 0] 29)) (t := 29) (cs := [.slice none 0 0, .slice RB rm rc])
    rw [World.size_alloc] at this
    exact this
  have HREL := Lib.hid hrel
  clear hi hz0 hz1 hz2 hL hr hb0 hrel
  go_enter Tryd.func21, Tryd.ntmps21
  go_wp2_with fail
  go_loopw [12] (fun v wr => ∃ (k : Nat) (A : Option Addr) (cap : Nat), k ≤ n ∧ v = .int .i64 k ∧ ExRel w (.slice RB rm rc) (.slice A k cap) k L LA wr) (fun v _ => n - (intOf v).toNat)
  case atStart => exact ⟨0, _, _, by omega, rfl, HREL.out⟩
  case round =>
    obtain ⟨k, A, cap, hk, rfl, hrel⟩ := hrel
    have HRL := Lib.hid hrel
    have hs : w.heap.size + 2 ≤ wr.heap.size := hrel.2.2.2.2.2
    clear hrel
    by_cases hlt : k < n
    · have hltL : k < L.length := by rw [HL.out]; exact hlt
      obtain ⟨lb, lo, rfl, hlb, hlc⟩ := rd_at HRL.out.2.2.2.1 (by omega)
      have hck := hlc k hltL
      obtain ⟨x, hx⟩ : ∃ x, x = L[k] := ⟨_, rfl⟩
      rw [← hx] at hck
      have HX := Lib.hid hx
      obtain ⟨p0, p1⟩ := HRL.out.2.2.1.two
      clear hlc hx
      go_wp2_with fail
      refine wp_regionE' 15 (fun w' => w'.cell? ⟨w.heap.size + 1, 0, none⟩ = some (.slice A k cap)) 16 #[false, false, false, false, false, false, false, false, false, false, false, false, false, false, false, false] (by kernel_rfl) (by kernel_rfl) (by kernel_rfl) ?_
      have hS : wr.drew.cell? ⟨w.heap.size + 1, 0, none⟩ = some (.slice A k cap) := p0
      have hk48 : (0 : Int) ≤ 48 + (k : Int) ∧ 48 + (k : Int) ≤ 57 := by omega
      have hw1 : IntKind.i64.wrap (48 + (k : Int)) = 48 + (k : Int) := IntWalk.i64_in _ (by omega)
      have hw2 : IntKind.u8.wrap (48 + (k : Int)) = 48 + (k : Int) := IntWalk.u8_in _ ⟨hk48.1, Int.le_trans hk48.2 (by decide)⟩
      refine wpAnyE_tk (i := 0) (v := ?_) #[true, false, false, false, false, false, false, false, false, false, false, false, false, false, false, false] (some 17) rfl rfl (by kernel_rfl) (by kernel_rfl) (by kernel_rfl) (by kernel_rfl) (by kernel_rfl) (fun _ _ _ h => h) (Or.inl ⟨by rfl, ?_⟩) hS ?_
      rotate_left
      · (intro w hSw; (try dsimp only at hSw); go_simp; all_goals with_reducible rfl)
      simp only [Act.put]
      refine wpAnyE_tk (i := 1) (v := ?_) #[true, true, false, false, false, false, false, false, false, false, false, false, false, false, false, false] (some 18) rfl rfl (by kernel_rfl) (by kernel_rfl) (by kernel_rfl) (by kernel_rfl) (by kernel_rfl) (fun _ _ _ h => h) (Or.inl ⟨by rfl, ?_⟩) hS ?_
      rotate_left
      · (intro w hSw; (try dsimp only at hSw); go_simp; all_goals with_reducible rfl)
      simp only [Act.put]
      refine wpAnyE_tk (i := 2) (v := ?_) #[true, true, true, false, false, false, false, false, false, false, false, false, false, false, false, false] (some 19) rfl rfl (by kernel_rfl) (by kernel_rfl) (by kernel_rfl) (by kernel_rfl) (by kernel_rfl) (fun _ _ _ h => h) (Or.inl ⟨by rfl, ?_⟩) hS ?_
      rotate_left
      · (intro w hSw; (try dsimp only at hSw); go_simp; all_goals with_reducible rfl)
      simp only [Act.put]
      refine wpAnyE_tk (i := 3) (v := ?_) #[true, true, true, true, false, false, false, false, false, false, false, false, false, false, false, false] (some 20) rfl rfl (by kernel_rfl) (by kernel_rfl) (by kernel_rfl) (by kernel_rfl) (by kernel_rfl) (fun _ _ _ h => h) (Or.inl ⟨by rfl, ?_⟩) hS ?_
      rotate_left
      · (intro w hSw; (try dsimp only at hSw); go_simp; all_goals with_reducible rfl)
      simp only [Act.put]
      refine wpAnyE_tk (i := 4) (v := ?_) #[true, true, true, true, true, false, false, false, false, false, false, false, false, false, false, false] (some 21) rfl rfl (by kernel_rfl) (by kernel_rfl) (by kernel_rfl) (by kernel_rfl) (by kernel_rfl) (fun _ _ _ h => h) (Or.inl ⟨by rfl, ?_⟩) hS ?_
      rotate_left
      · (intro w hSw; (try dsimp only at hSw); go_simp; all_goals with_reducible rfl)
      simp only [Act.put]
      refine wpAnyE_tk (i := 8) (v := ?_) #[true, true, true, true, true, false, false, false, true, false, false, false, false, false, false, false] (some 25) rfl rfl (by kernel_rfl) (by kernel_rfl) (by kernel_rfl) (by kernel_rfl) (by kernel_rfl) (fun _ _ _ h => h) (Or.inl ⟨by rfl, ?_⟩) hS ?_
      rotate_left
      · (intro w hSw; (try dsimp only at hSw); go_simp; all_goals with_reducible rfl)
      simp only [Act.put]
      refine wpAnyE_tk (i := 10) (v := ?_) #[true, true, true, true, true, false, false, false, true, false, true, false, false, false, false, false] (some 27) rfl rfl (by kernel_rfl) (by kernel_rfl) (by kernel_rfl) (by kernel_rfl) (by kernel_rfl) (fun _ _ _ h => h) (Or.inl ⟨by rfl, ?_⟩) hS ?_
      rotate_left
      · (intro w hSw; (try dsimp only at hSw); go_simp; all_goals with_reducible rfl)
      simp only [Act.put]
      obtain ⟨sd, hsd⟩ : ∃ sd, sd = wDig k := ⟨_, rfl⟩
      have hconv : ∀ (w' : World) (b : Nat), w'.cell? ⟨b, 0, none⟩ = some (.int .u8 (48 + (k : Int))) → (convert 62 9 (.slice (some ⟨b, 0, none⟩) 1 1)).run Tryd.prog w' = .ok (.string sd) w' := fun w' b hb => by
        rw [hsd]
        have := run_convert_bytes_back (P := Tryd.prog) w' 62 9 5 ⟨b, 0, none⟩ 1 [UInt8.ofNat (48 + k)] Tryd.underlying62 Tryd.underlying5 Tryd.underlying9 (fun j hj => by
          obtain rfl : j = 0 := by simpa using hj
          rw [show (Addr.mk b 0 none).add 0 = ⟨b, 0, none⟩ from rfl, hb]
          congr 2
          rw [List.getElem_cons_zero, UInt8.toNat_ofNat']
          omega)
        exact this
      have hsz : ¬ (9223372036854775807 < 1 + sd.size) := by rw [hsd, show (wDig k).size = 1 from rfl]; decide
      have HSD := Lib.hid hsd
      clear hsd
      refine wpAnyE_ready (rs := [5, 9]) (by kernel_rfl) (by simp) ?_
      refine AllE.cons' (o := _) #[true, true, true, true, true, true, false, false, true, false, true, false, false, false, false, false] rfl (by kernel_rfl) (fun K hK => ?_) (AllE.cons' (o := _) #[true, true, true, true, true, false, false, false, true, true, true, false, false, false, false, false] rfl (by kernel_rfl) (fun K hK => ?_) AllE.nil)
      · go_simp
        obtain ⟨W5, hW5⟩ : ∃ W5, W5 = (wr.alloc (.cells #[.int .u8 (48 + (k : Int))] 5)).drew := ⟨_, rfl⟩
        rw [← hW5]
        have hE5 := HRL.out.below (w' := W5) (by rw [hW5]; exact bw_drew (bw_new (Below.refl _ _) _))
        have hc5 : W5.cell? ⟨wr.heap.size, 0, none⟩ = some (.int .u8 (48 + (k : Int))) := by rw [hW5]; exact (Blk.new (w := wr) (cs := [.int .u8 (48 + (k : Int))])).cell 0
        have hl5 : wr.heap.size < W5.heap.size := by rw [hW5]; simp
        have HE5 := Lib.hid hE5
        refine hK.out _ _ (fun _ => hE5.2.2.1.two.1) ?_
        clear hK K hW5 hE5 p0 p1 hck
        try simp only [Act.put]
        refine wpAnyE_more (S' := fun w' => w'.cell? ⟨w.heap.size + 1, 0, none⟩ = some (.slice A k cap) ∧ w'.cell? ⟨wr.heap.size, 0, none⟩ = some (.int .u8 (48 + (k : Int)))) (fun _ h => h.1) _ _ _ _ ?_
        replace hS := And.intro HE5.out.2.2.1.two.1 hc5
        refine wpAnyE_tk (i := 6) (v := ?_) #[true, true, true, true, true, true, true, false, true, false, true, false, false, false, false, false] (some 23) rfl rfl (by kernel_rfl) (by kernel_rfl) (by kernel_rfl) (by kernel_rfl) (by kernel_rfl) (fun _ _ _ h => h) (Or.inl ⟨by rfl, ?_⟩) hS ?_
        rotate_left
        · (intro w hSw; (try dsimp only at hSw); go_simp; all_goals with_reducible rfl)
        simp only [Act.put]
        refine wpAnyE_tk (i := 7) (v := ?_) #[true, true, true, true, true, true, true, true, true, false, true, false, false, false, false, false] (some 24) rfl rfl (by kernel_rfl) (by kernel_rfl) (by kernel_rfl) (by kernel_rfl) (by kernel_rfl) (fun _ _ _ h => h) (Or.inl ⟨by rfl, ?_⟩) hS ?_
        rotate_left
        · (intro w hSw; (try dsimp only at hSw); go_simp; all_goals with_reducible rfl)
        simp only [Act.put]
        refine wpAnyE_ready (rs := [9]) (by kernel_rfl) (by simp) ?_
        refine AllE.cons' (o := _) #[true, true, true, true, true, true, true, true, true, true, true, false, false, false, false, false] rfl (by kernel_rfl) (fun K hK => ?_) AllE.nil
        go_simp
        refine (feet_any _ _).mono ?_
        rintro e W7 ⟨rfl, hk7⟩
        dsimp only
        have hE7 := HE5.out.below hk7
        have hc7 := ((bcell hk7).1 wr.heap.size 0 hl5).trans hc5
        have hlt7 : wr.heap.size < W7.heap.size := Nat.lt_of_lt_of_le hl5 hk7.size
        have HE7 := Lib.hid hE7
        refine hK.out _ _ (fun _ => ⟨hE7.2.2.1.two.1, hc7⟩) ?_
        replace hS := And.intro HE7.out.2.2.1.two.1 hc7
        clear hK K hk7 hE7
        try simp only [Act.put]
        refine wpAnyE_tk (i := 11) (v := ?_) #[true, true, true, true, true, true, true, true, true, true, true, true, false, false, false, false] (some 28) rfl rfl (by kernel_rfl) (by kernel_rfl) (by kernel_rfl) (by kernel_rfl) (by kernel_rfl) (fun _ _ _ h => h) (Or.inl ⟨by rfl, ?_⟩) hS ?_
        rotate_left
        · (intro w hSw; (try dsimp only at hSw); go_simp; all_goals with_reducible rfl)
        simp only [Act.put]
        refine wpAnyE_ready (rs := [12]) (by kernel_rfl) (by simp) ?_
        refine AllE.cons' (o := _) #[true, true, true, true, true, true, true, true, true, true, true, true, true, false, false, false] rfl (by kernel_rfl) (fun K hK => ?_) AllE.nil
        go_simp
        have hE9 := HE7.out.below (bw_new (Below.refl _ _) (.cells #[.string (⟨#[119]⟩ ++ sd), .int .i64 0, .string ⟨#[102, 108, 117, 116, 101]⟩, .int .i64 x, .int .i64 1, .int .i64 36, .int .i64 96] 48))
        refine hK.out _ _ (fun _ => ⟨hE9.2.2.1.two.1, by rw [World.cell?_alloc_lt _ _ _ hlt7]; exact hS.2⟩) ?_
        have hlt9 : wr.heap.size < (W7.alloc (.cells #[.string (⟨#[119]⟩ ++ sd), .int .i64 0, .string ⟨#[102, 108, 117, 116, 101]⟩, .int .i64 x, .int .i64 1, .int .i64 36, .int .i64 96] 48)).heap.size := by simp; omega
        replace hS := And.intro hE9.2.2.1.two.1 ((World.cell?_alloc_lt W7 (.cells #[.string (⟨#[119]⟩ ++ sd), .int .i64 0, .string ⟨#[102, 108, 117, 116, 101]⟩, .int .i64 x, .int .i64 1, .int .i64 36, .int .i64 96] 48) ⟨wr.heap.size, 0, none⟩ hlt7).trans hS.2)
        have HE9 := Lib.hid hE9
        clear hK K hE9
        try simp only [Act.put]
        refine wpAnyE_ready (rs := [13]) (by kernel_rfl) (by simp) ?_
        refine AllE.cons' (o := _) #[true, true, true, true, true, true, true, true, true, true, true, true, true, true, false, false] rfl (by kernel_rfl) (fun K hK => ?_) AllE.nil
        refine step_append_lies _ (by rfl) _ _ _ (by rfl) (w.heap.size + 2) 48 i0 (.agg #[.string ⟨#[]⟩, .int .i64 0, .string ⟨#[]⟩, .int .i64 0, .int .i64 0, .int .i64 0, .int .i64 0]) 7 72 Tryd.underlying26 HHI.out HZ0.out HZ1.out HZ2.out rfl (by decide) (.slice A k cap) k (wsCells (exWs 0 (L.take k))) (by rfl) HE9.out.1
          ⟨W7.heap.size, 0, none⟩ 1 1 [.string (⟨#[119]⟩ ++ sd), .int .i64 0, .string ⟨#[102, 108, 117, 116, 101]⟩, .int .i64 x, .int .i64 1, .int .i64 36, .int .i64 96] (by rfl) (by rfl) (World.news_of_block (cs := #[.string (⟨#[119]⟩ ++ sd), .int .i64 0, .string ⟨#[102, 108, 117, 116, 101]⟩, .int .i64 x, .int .i64 1, .int .i64 36, .int .i64 96]) (t := 48) (fr := (0, 0)) (heap_alloc_new W7 _)) (by simp [Value.oneCell'])
          (by omega) (by unfold maxLen; omega) (by omega) (Nat.le_trans (show w.heap.size + 2 ≤ wr.heap.size from hs) (Nat.le_of_lt hlt9)) (W7.heap.size + 1) (by simp) ?_
        intro g cap2 W10 hown hgrow hat hlt
        have hne1 : some (w.heap.size + 1) ≠ (Value.slice A k cap).ownBlock := fun e => by have := (HE9.out.1.lt _ e.symm).1; omega
        have hne0 : some w.heap.size ≠ (Value.slice A k cap).ownBlock := fun e => by have := (HE9.out.1.lt _ e.symm).1; omega
        have hne2 : some wr.heap.size ≠ (Value.slice A k cap).ownBlock := fun e => by have := (HRL.out.1.lt _ e.symm).2; omega
        have hB0 := HE9.out.2.1.grown hgrow hne0
        have hB1 := HE9.out.2.2.1.grown hgrow hne1
        have hbg : Below w.heap.size _ W10 := (Below.refl w.heap.size _).grown hgrow (Nat.le_trans (by omega) HE9.out.2.2.2.2.2) (fun r e => by have := (HE9.out.1.lt _ e).1; omega)
        have hsg : w.heap.size + 2 ≤ W10.heap.size := Nat.le_trans HE9.out.2.2.2.2.2 hgrow.size
        have hRd := HE9.out.2.2.2.1.below hbg
        have hBw := HE9.out.2.2.2.2.1.trans hbg
        have hgb : w.heap.size + 2 ≤ g := by
          rcases hat with h | h
          · exact (HE9.out.1.lt _ h).1
          · rw [h]; omega
        have hnx : L[k] = x := HX.out.symm
        have hown' : W10.ownsRow (w.heap.size + 2) 48 7 (.slice (some ⟨g, 0, none⟩) (k + 1) cap2) (k + 1) (wsCells (exWs 0 (L.take (k + 1)))) := by
          rw [exWs_snoc L k hltL, wsCells_snoc, hnx]
          have e : (exW k x).cells = [.string (⟨#[119]⟩ ++ sd), .int .i64 0, .string ⟨#[102, 108, 117, 116, 101]⟩, .int .i64 x, .int .i64 1, .int .i64 36, .int .i64 96] := by rw [HSD.out]; rfl
          rw [e]; exact hown
        obtain ⟨q0, q1⟩ := hB1.two
        have q2 := hB1.frozen 0
        have HC := Lib.hid (And.intro hown' (And.intro hB0 (And.intro hB1 (And.intro hRd (And.intro hBw (And.intro hsg hgb))))))
        refine hK.out _ _ (fun _ => ⟨q0, (World.cell?_of_block (hgrow.block _ hlt9 hne2)).trans hS.2⟩) ?_
        replace hS := And.intro q0 ((World.cell?_of_block (hgrow.block _ hlt9 hne2)).trans hS.2)
        clear hK K hown hown' hB0 hB1 hRd hBw hsg hgb hbg hat hnx
        try simp only [Act.put]
        refine wpAnyE_tk (i := 14) (v := ?_) #[true, true, true, true, true, true, true, true, true, true, true, true, true, true, true, false] (some 31) rfl rfl (by kernel_rfl) (by kernel_rfl) (by kernel_rfl) (by kernel_rfl) (by kernel_rfl) (fun _ _ _ h => h) (Or.inl ⟨by rfl, ?_⟩) hS ?_
        rotate_left
        · (intro w hSw; (try dsimp only at hSw); go_simp; all_goals with_reducible rfl)
        simp only [Act.put]
        refine wpAnyE_ready (rs := [15]) (by kernel_rfl) (by simp) ?_
        refine AllE.cons' (o := _) #[true, true, true, true, true, true, true, true, true, true, true, true, true, true, true, true] rfl (by kernel_rfl) (fun K hK => ?_) AllE.nil
        go_simp
        refine hK.out _ _ (fun h => absurd rfl h) ?_
        clear hK K hS
        try simp only [Act.put]
        refine wpAnyE_done (by kernel_rfl) ?_ _
        clear q0 q1 q2 hw1 hw2 hconv hsz
        obtain ⟨c1, c2, c3, c4, c5, c6, c7⟩ := HC.out
        have HF : Hid (ExRel w (.slice RB rm rc) (.slice (some ⟨g, 0, none⟩) (k + 1) cap2) (k + 1) L (some ⟨lb, lo, none⟩) (W10.setCell ⟨w.heap.size + 1, 0, none⟩ (.slice (some ⟨g, 0, none⟩) (k + 1) cap2))) :=
          Lib.hid ⟨own_far c1 (fun q hq => by have := (c1.lt q hq).1; show q ≠ w.heap.size + 1; omega) _, c2.far (by show w.heap.size ≠ w.heap.size + 1; omega) _, c3.put 0 _, c4.below (bw_set (Below.refl _ _) (by omega) _), bw_set c5 (by omega) _, by simpa using c6⟩
        clear c1 c2 c3 c4 c5 c6 c7
        go_wp2
        go_roundw
        case rel => exact ⟨k + 1, _, _, by omega, by go_num, HF.out⟩
        case measure => simp [intOf]; omega
      · go_simp
        refine (feet_any _ _).mono ?_
        rintro e W5 ⟨rfl, hk5⟩
        dsimp only
        have hE5 := (HRL.out.below (bw_drew (Below.refl _ _))).below hk5
        have hl5 : wr.heap.size ≤ W5.heap.size := hk5.size
        have HE5 := Lib.hid hE5
        refine hK.out _ _ (fun _ => hE5.2.2.1.two.1) ?_
        replace hS := HE5.out.2.2.1.two.1
        clear hK K hk5 hE5 p0 p1 hck
        try simp only [Act.put]
        refine wpAnyE_ready (rs := [5]) (by kernel_rfl) (by simp) ?_
        refine AllE.cons' (o := _) #[true, true, true, true, true, true, false, false, true, true, true, false, false, false, false, false] rfl (by kernel_rfl) (fun K hK => ?_) AllE.nil
        go_simp
        obtain ⟨W7, hW7⟩ : ∃ W7, W7 = W5.alloc (.cells #[.int .u8 (48 + (k : Int))] 5) := ⟨_, rfl⟩
        rw [← hW7]
        have hE7 := HE5.out.below (w' := W7) (by rw [hW7]; exact (bw_new (Below.refl _ _) _))
        have hc7 : W7.cell? ⟨W5.heap.size, 0, none⟩ = some (.int .u8 (48 + (k : Int))) := by rw [hW7]; exact (Blk.new (w := W5) (cs := [.int .u8 (48 + (k : Int))])).cell 0
        have hlt7 : W5.heap.size < W7.heap.size := by rw [hW7]; simp
        have HE7 := Lib.hid hE7
        refine hK.out _ _ (fun _ => hE7.2.2.1.two.1) ?_
        clear hK K hW7 hE7
        try simp only [Act.put]
        refine wpAnyE_more (S' := fun w' => w'.cell? ⟨w.heap.size + 1, 0, none⟩ = some (.slice A k cap) ∧ w'.cell? ⟨W5.heap.size, 0, none⟩ = some (.int .u8 (48 + (k : Int)))) (fun _ h => h.1) _ _ _ _ ?_
        replace hS := And.intro HE7.out.2.2.1.two.1 hc7
        refine wpAnyE_tk (i := 6) (v := ?_) #[true, true, true, true, true, true, true, false, true, true, true, false, false, false, false, false] (some 23) rfl rfl (by kernel_rfl) (by kernel_rfl) (by kernel_rfl) (by kernel_rfl) (by kernel_rfl) (fun _ _ _ h => h) (Or.inl ⟨by rfl, ?_⟩) hS ?_
        rotate_left
        · (intro w hSw; (try dsimp only at hSw); go_simp; all_goals with_reducible rfl)
        simp only [Act.put]
        refine wpAnyE_tk (i := 7) (v := ?_) #[true, true, true, true, true, true, true, true, true, true, true, false, false, false, false, false] (some 24) rfl rfl (by kernel_rfl) (by kernel_rfl) (by kernel_rfl) (by kernel_rfl) (by kernel_rfl) (fun _ _ _ h => h) (Or.inl ⟨by rfl, ?_⟩) hS ?_
        rotate_left
        · (intro w hSw; (try dsimp only at hSw); go_simp; all_goals with_reducible rfl)
        simp only [Act.put]
        refine wpAnyE_tk (i := 11) (v := ?_) #[true, true, true, true, true, true, true, true, true, true, true, true, false, false, false, false] (some 28) rfl rfl (by kernel_rfl) (by kernel_rfl) (by kernel_rfl) (by kernel_rfl) (by kernel_rfl) (fun _ _ _ h => h) (Or.inl ⟨by rfl, ?_⟩) hS ?_
        rotate_left
        · (intro w hSw; (try dsimp only at hSw); go_simp; all_goals with_reducible rfl)
        simp only [Act.put]
        refine wpAnyE_ready (rs := [12]) (by kernel_rfl) (by simp) ?_
        refine AllE.cons' (o := _) #[true, true, true, true, true, true, true, true, true, true, true, true, true, false, false, false] rfl (by kernel_rfl) (fun K hK => ?_) AllE.nil
        go_simp
        have hE9 := HE7.out.below (bw_new (Below.refl _ _) (.cells #[.string (⟨#[119]⟩ ++ sd), .int .i64 0, .string ⟨#[102, 108, 117, 116, 101]⟩, .int .i64 x, .int .i64 1, .int .i64 36, .int .i64 96] 48))
        refine hK.out _ _ (fun _ => ⟨hE9.2.2.1.two.1, by rw [World.cell?_alloc_lt _ _ _ hlt7]; exact hS.2⟩) ?_
        have hlt9 : W5.heap.size < (W7.alloc (.cells #[.string (⟨#[119]⟩ ++ sd), .int .i64 0, .string ⟨#[102, 108, 117, 116, 101]⟩, .int .i64 x, .int .i64 1, .int .i64 36, .int .i64 96] 48)).heap.size := by simp; omega
        replace hS := And.intro hE9.2.2.1.two.1 ((World.cell?_alloc_lt W7 (.cells #[.string (⟨#[119]⟩ ++ sd), .int .i64 0, .string ⟨#[102, 108, 117, 116, 101]⟩, .int .i64 x, .int .i64 1, .int .i64 36, .int .i64 96] 48) ⟨W5.heap.size, 0, none⟩ hlt7).trans hS.2)
        have HE9 := Lib.hid hE9
        clear hK K hE9
        try simp only [Act.put]
        refine wpAnyE_ready (rs := [13]) (by kernel_rfl) (by simp) ?_
        refine AllE.cons' (o := _) #[true, true, true, true, true, true, true, true, true, true, true, true, true, true, false, false] rfl (by kernel_rfl) (fun K hK => ?_) AllE.nil
        refine step_append_lies _ (by rfl) _ _ _ (by rfl) (w.heap.size + 2) 48 i0 (.agg #[.string ⟨#[]⟩, .int .i64 0, .string ⟨#[]⟩, .int .i64 0, .int .i64 0, .int .i64 0, .int .i64 0]) 7 72 Tryd.underlying26 HHI.out HZ0.out HZ1.out HZ2.out rfl (by decide) (.slice A k cap) k (wsCells (exWs 0 (L.take k))) (by rfl) HE9.out.1
          ⟨W7.heap.size, 0, none⟩ 1 1 [.string (⟨#[119]⟩ ++ sd), .int .i64 0, .string ⟨#[102, 108, 117, 116, 101]⟩, .int .i64 x, .int .i64 1, .int .i64 36, .int .i64 96] (by rfl) (by rfl) (World.news_of_block (cs := #[.string (⟨#[119]⟩ ++ sd), .int .i64 0, .string ⟨#[102, 108, 117, 116, 101]⟩, .int .i64 x, .int .i64 1, .int .i64 36, .int .i64 96]) (t := 48) (fr := (0, 0)) (heap_alloc_new W7 _)) (by simp [Value.oneCell'])
          (by omega) (by unfold maxLen; omega) (by omega) (Nat.le_trans (Nat.le_trans hs hl5) (Nat.le_of_lt hlt9)) (W7.heap.size + 1) (by simp) ?_
        intro g cap2 W10 hown hgrow hat hlt
        have hne1 : some (w.heap.size + 1) ≠ (Value.slice A k cap).ownBlock := fun e => by have := (HE9.out.1.lt _ e.symm).1; omega
        have hne0 : some w.heap.size ≠ (Value.slice A k cap).ownBlock := fun e => by have := (HE9.out.1.lt _ e.symm).1; omega
        have hne2 : some W5.heap.size ≠ (Value.slice A k cap).ownBlock := fun e => by have := (HRL.out.1.lt _ e.symm).2; omega
        have hB0 := HE9.out.2.1.grown hgrow hne0
        have hB1 := HE9.out.2.2.1.grown hgrow hne1
        have hbg : Below w.heap.size _ W10 := (Below.refl w.heap.size _).grown hgrow (Nat.le_trans (by omega) HE9.out.2.2.2.2.2) (fun r e => by have := (HE9.out.1.lt _ e).1; omega)
        have hsg : w.heap.size + 2 ≤ W10.heap.size := Nat.le_trans HE9.out.2.2.2.2.2 hgrow.size
        have hRd := HE9.out.2.2.2.1.below hbg
        have hBw := HE9.out.2.2.2.2.1.trans hbg
        have hgb : w.heap.size + 2 ≤ g := by
          rcases hat with h | h
          · exact (HE9.out.1.lt _ h).1
          · rw [h]; omega
        have hnx : L[k] = x := HX.out.symm
        have hown' : W10.ownsRow (w.heap.size + 2) 48 7 (.slice (some ⟨g, 0, none⟩) (k + 1) cap2) (k + 1) (wsCells (exWs 0 (L.take (k + 1)))) := by
          rw [exWs_snoc L k hltL, wsCells_snoc, hnx]
          have e : (exW k x).cells = [.string (⟨#[119]⟩ ++ sd), .int .i64 0, .string ⟨#[102, 108, 117, 116, 101]⟩, .int .i64 x, .int .i64 1, .int .i64 36, .int .i64 96] := by rw [HSD.out]; rfl
          rw [e]; exact hown
        obtain ⟨q0, q1⟩ := hB1.two
        have q2 := hB1.frozen 0
        have HC := Lib.hid (And.intro hown' (And.intro hB0 (And.intro hB1 (And.intro hRd (And.intro hBw (And.intro hsg hgb))))))
        refine hK.out _ _ (fun _ => ⟨q0, (World.cell?_of_block (hgrow.block _ hlt9 hne2)).trans hS.2⟩) ?_
        replace hS := And.intro q0 ((World.cell?_of_block (hgrow.block _ hlt9 hne2)).trans hS.2)
        clear hK K hown hown' hB0 hB1 hRd hBw hsg hgb hbg hat hnx
        try simp only [Act.put]
        refine wpAnyE_tk (i := 14) (v := ?_) #[true, true, true, true, true, true, true, true, true, true, true, true, true, true, true, false] (some 31) rfl rfl (by kernel_rfl) (by kernel_rfl) (by kernel_rfl) (by kernel_rfl) (by kernel_rfl) (fun _ _ _ h => h) (Or.inl ⟨by rfl, ?_⟩) hS ?_
        rotate_left
        · (intro w hSw; (try dsimp only at hSw); go_simp; all_goals with_reducible rfl)
        simp only [Act.put]
        refine wpAnyE_ready (rs := [15]) (by kernel_rfl) (by simp) ?_
        refine AllE.cons' (o := _) #[true, true, true, true, true, true, true, true, true, true, true, true, true, true, true, true] rfl (by kernel_rfl) (fun K hK => ?_) AllE.nil
        go_simp
        refine hK.out _ _ (fun h => absurd rfl h) ?_
        clear hK K hS
        try simp only [Act.put]
        refine wpAnyE_done (by kernel_rfl) ?_ _
        clear q0 q1 q2 hw1 hw2 hconv hsz
        obtain ⟨c1, c2, c3, c4, c5, c6, c7⟩ := HC.out
        have HF : Hid (ExRel w (.slice RB rm rc) (.slice (some ⟨g, 0, none⟩) (k + 1) cap2) (k + 1) L (some ⟨lb, lo, none⟩) (W10.setCell ⟨w.heap.size + 1, 0, none⟩ (.slice (some ⟨g, 0, none⟩) (k + 1) cap2))) :=
          Lib.hid ⟨own_far c1 (fun q hq => by have := (c1.lt q hq).1; show q ≠ w.heap.size + 1; omega) _, c2.far (by show w.heap.size ≠ w.heap.size + 1; omega) _, c3.put 0 _, c4.below (bw_set (Below.refl _ _) (by omega) _), bw_set c5 (by omega) _, by simpa using c6⟩
        clear c1 c2 c3 c4 c5 c6 c7
        go_wp2
        go_roundw
        case rel => exact ⟨k + 1, _, _, by omega, by go_num, HF.out⟩
        case measure => simp [intOf]; omega
    · have hkn : k = n := by omega
      subst hkn
      have hrow := HRL.out.1
      rw [List.take_of_length_le (by rw [HL.out]; exact Nat.le_refl _)] at hrow
      have hcap := own_cap hrow
      have hmx : cap ≤ maxLen := by
        rcases hrow.2 with ⟨hv, _⟩ | ⟨g', c', cur, hv, _, _, _, hm, _⟩
        · injection hv with _ _ h3; subst h3; unfold maxLen; omega
        · injection hv with _ _ h3; subst h3; exact hm
      have hfar : ∀ q, (Value.slice A k cap).ownBlock = some q → q ≠ w.heap.size := fun q hq => by have := (hrow.lt q hq).1; omega
      have HRW := Lib.hid (WRd.of_own (own_far (own_far hrow (p := ⟨w.heap.size, 0, none⟩) hfar (.slice A k cap)) (p := ⟨w.heap.size, 1, none⟩) hfar (.slice RB rm rc)) (by rw [exWs_length]; exact HL.out.symm))
      have HCM := Lib.hid (And.intro hcap hmx)
      obtain ⟨p0, p1⟩ := HRL.out.2.2.1.two
      obtain ⟨q0, q1⟩ := HRL.out.2.1.two
      have f0 := HRL.out.2.1.frozen 0
      have f1 := HRL.out.2.1.frozen 1
      clear hrow hcap hmx hfar
      go_wp2
      refine bodyPost_ret (v := .agg #[.slice A k cap, .slice RB rm rc]) (by simp [results, Tryd.results21, go_sem, q0, q1]) rfl ⟨A, cap, rfl, HCM.out.1, HCM.out.2, ?_, ?_⟩
      · exact HRW.out
      · exact bw_set (bw_set HRL.out.2.2.2.2.1 (Nat.le_refl _) _) (Nat.le_refl _) _
end Go.Proofs.YtkamepalomkpbaaDoor
namespace Go.Proofs.YtkamepalomkpbaaDoor
open Go.RowKit
theorem exWs_ok {L : List Int} (hL : ∀ x ∈ L, I64 x) : ∀ i, ∀ x ∈ exWs i L, I64 x.fn ∧ I64 x.fd ∧ x.nm.size ≤ 1000000000 ∧ x.tn.size ≤ 1000000000 := by
  induction L with
  | nil => intro i x hx; cases hx
  | cons n r ih =>
    intro i x hx
    rcases List.mem_cons.1 hx with rfl | hx
    · exact ⟨hL n List.mem_cons_self, ⟨by show -9223372036854775808 ≤ (1 : Int); decide, by show (1 : Int) ≤ 9223372036854775807; decide⟩, by show (wName i).size ≤ 1000000000; unfold wName; rw [ByteArray.size_append]; exact (by decide : 1 + 1 ≤ 1000000000), by show flute.size ≤ 1000000000; decide⟩
    · exact ih (fun y hy => hL y (List.mem_cons_of_mem _ hy)) (i + 1) x hx
theorem sh8 : shF 8 1 = 0 := shF_eq (s := 0) (.mk 0 0 (by decide) (by decide +kernel) (by decide +kernel)) (by decide) (by decide)
theorem sh4 : shF 4 1 = 12 := shF_eq (s := 12) (.mk 12 0 (by decide) (by decide +kernel) (by decide +kernel)) (by decide) (by decide)
theorem sh16 : shF 16 1 = -12 := shF_eq (s := -12) (.mk 0 12 (by decide) (by decide +kernel) (by decide +kernel)) (by decide) (by decide)
theorem pr_whole (n : Int) (h : 0 < n ∧ n ≤ 128) : PR n 1 := ⟨⟨by decide, by decide, by omega, by omega, by simp⟩, by omega, by omega, by decide⟩
theorem exE (i : Nat) (n : Int) (h : 0 < n ∧ n ≤ 128) : wE (exW i n) = 0 := by
  unfold wE exW
  dsimp only
  rw [if_neg (by decide), if_neg (by decide), if_neg (by rw [pErr_ok (pr_whole n h)]; decide)]
  rfl
theorem nm0 : nameB (wName 0) = true := by decide +kernel
theorem nm1 : nameB (wName 1) = true := by decide +kernel
theorem nm2 : nameB (wName 2) = true := by decide +kernel
theorem ex3E : wsE [] (exWs 0 [8, 4, 16]) = 0 := by
  rw [show exWs 0 [8, 4, 16] = [exW 0 8, exW 1 4, exW 2 16] from rfl, wsE_cons, wsE_cons, wsE_cons, exE 0 8 (by decide), exE 1 4 (by decide), exE 2 16 (by decide)]
  rw [show (exW 0 8).nm = wName 0 from rfl, show (exW 1 4).nm = wName 1 from rfl, show (exW 2 16).nm = wName 2 from rfl, nm0, nm1, nm2]
  decide +kernel
theorem ex2E : wsE [] (exWs 0 [8, 4]) = 0 := by
  rw [show exWs 0 [8, 4] = [exW 0 8, exW 1 4] from rfl, wsE_cons, wsE_cons, exE 0 8 (by decide), exE 1 4 (by decide)]
  rw [show (exW 0 8).nm = wName 0 from rfl, show (exW 1 4).nm = wName 1 from rfl, nm0, nm1]
  decide +kernel
theorem exB {l : List Int} {rules g : List Int} (h : wsE [] (exWs 0 l) = 0) (hl : l.length ≤ 12) (hr : rules.length ≤ 48) (hs : sqE 128 3 none rules = 0) (hg : gpE l.length g = 0) : bothE (exWs 0 l) rules g = 0 := by
  have hp : pbE (exWs 0 l) rules = 0 := by
    unfold pbE
    rw [exWs_length, if_neg (by omega), if_neg (by omega), if_neg (by omega)]
    exact hs
  unfold bothE
  rw [if_neg (by omega), exWs_length]
  exact hg
theorem lo0 (l : List Int) : loH (wat (exWs 0 (8 :: l)) 0) = 36 ∧ hiH (wat (exWs 0 (8 :: l)) 0) = 96 := by
  unfold loH hiH shW
  rw [show wat (exWs 0 (8 :: l)) 0 = exW 0 8 from rfl]
  show 36 + shF 8 1 = 36 ∧ 96 + shF 8 1 = 96
  rw [sh8]; decide
theorem lo1 (l : List Int) : loH (wat (exWs 0 (8 :: 4 :: l)) 1) = 48 ∧ hiH (wat (exWs 0 (8 :: 4 :: l)) 1) = 108 := by
  unfold loH hiH shW
  rw [show wat (exWs 0 (8 :: 4 :: l)) 1 = exW 1 4 from rfl]
  show 36 + shF 4 1 = 48 ∧ 96 + shF 4 1 = 108
  rw [sh4]; decide
theorem lo2 (l : List Int) : loH (wat (exWs 0 (8 :: 4 :: 16 :: l)) 2) = 24 ∧ hiH (wat (exWs 0 (8 :: 4 :: 16 :: l)) 2) = 84 := by
  unfold loH hiH shW
  rw [show wat (exWs 0 (8 :: 4 :: 16 :: l)) 2 = exW 2 16 from rfl]
  show 36 + shF 16 1 = 24 ∧ 96 + shF 16 1 = 84
  rw [sh16]; decide
theorem cost2 (l : List Int) : costZ (exWs 0 (8 :: 4 :: l)) [0, 1] = 73 := by
  unfold costZ his los
  simp only [List.map_cons, List.map_nil, lo0, lo1]
  decide
theorem cost3 : costZ (exWs 0 [8, 4, 16]) [0, 1, 2] = 85 := by
  unfold costZ his los
  simp only [List.map_cons, List.map_nil, lo0, lo1, lo2]
  decide
theorem ap01 (rules : List Int) : apB rules (wat (exWs 0 [8, 4]) 0) (wat (exWs 0 [8, 4]) 1) = decide ((12 : Int) ∈ rules) := by
  rw [show wat (exWs 0 [8, 4]) 0 = exW 0 8 from rfl, show wat (exWs 0 [8, 4]) 1 = exW 1 4 from rfl]
  unfold apB
  rw [if_neg (fun h => h rfl)]
  unfold absD shW
  show (decide ((0 : Int) = 0) && decide (max (shF 8 1 - shF 4 1) (-(shF 8 1 - shF 4 1)) ∈ rules)) = _
  rw [sh8, sh4]
  rfl
theorem fst_ex (rules : List Int) : fstP (exWs 0 [8, 4]) rules [0, 1] = if (12 : Int) ∈ rules then some (0, 1) else none := by
  unfold fstP pairOf
  rw [List.find?_cons, ap01]
  by_cases h : (12 : Int) ∈ rules
  · rw [decide_eq_true h, if_pos h]
  · rw [decide_eq_false h, if_neg h]; rfl
theorem ints_rd {w : World} {t : TypeId} (cs : List Int) : Rd i64v (w.alloc (.cells (cs.map i64v).toArray t)) (w.heap.size + 1) (some ⟨w.heap.size, 0, none⟩) cs := by
  have h := Blk.rd (enc := i64v) (L := cs) (Blk.new (w := w) (t := t) (cs := cs.map i64v))
  rw [World.size_alloc] at h
  exact h
theorem ex_pb {w w' : World} {A B : Option Addr} {n cap m c2 : Nat} {L rules : List Int} (hL : ∀ x ∈ L, I64 x) (hl : L.length = n) (hm : rules.length = m) (h1 : n ≤ cap) (h2 : cap ≤ maxLen) (h3 : m ≤ c2) (h4 : c2 ≤ maxLen)
    (hw : WRd w' w'.heap.size A (exWs 0 L)) (hr : Rd i64v w w.heap.size B rules) (hb : Below w.heap.size w w') : Pb w' w'.heap.size A n cap B m c2 (exWs 0 L) rules where
  wl := by rw [exWs_length]; exact hl
  rl := hm
  wr := hw
  rr := (hr.below hb).more hb.size
  wc := h1
  rc := h3
  wm := h2
  rm := h4
  ok := exWs_ok hL 0
abbrev l3 : List Int := [8, 4, 16]
abbrev l2 : List Int := [8, 4]
instance (n : Int) : Decidable (I64 n) := by unfold I64; infer_instance
theorem l3_ok : ∀ x ∈ l3, I64 x := by decide
theorem l2_ok : ∀ x ∈ l2, I64 x := by decide
theorem cost_ct (L : List Int) (n : Nat) (g : List Int) (gn : Nat) (z : Int) (hz : bothE (exWs 0 L) [] g = 0) (hc : costZ (exWs 0 L) g = z) (hL : ∀ x ∈ L, I64 x) (hl : L.length = n) (hg : g.length = gn) (hgm : gn ≤ 1000)
    {A : Option Addr} {cap : Nat} (W : World) (h1 : n ≤ cap) (h2 : cap ≤ maxLen) (hw : WRd W W.heap.size A (exWs 0 L)) (ht : Tab W) :
    Calls Tryd.prog 10 #[.agg #[.slice A n cap, .slice none 0 0], .slice (some ⟨W.heap.size, 0, none⟩) gn gn] (W.alloc (.cells (g.map i64v).toArray 3)) fun e w' => e = .returned (.tuple #[.int .i64 z, .int .i64 0]) ∧ Below W.heap.size W w' := by
  have hb0 := bw_new (Below.refl _ W) (.cells (g.map i64v).toArray 3)
  have hp := (ex_pb (w := W) (m := 0) (c2 := 0) (B := none) (rules := []) hL hl rfl h1 h2 (Nat.le_refl _) (by decide) hw Rd.nil (Below.refl _ _)).below hb0
  have := wcost_any A n cap none 0 0 (exWs 0 L) [] (some ⟨W.heap.size, 0, none⟩) gn gn g (W.heap.size + 1) (W.alloc (.cells (g.map i64v).toArray 3)) (hp.more (by omega)) (by simp) hg (ints_rd g) (Nat.le_refl _) (by unfold maxLen; omega) (ht.alloc _)
  rw [hz, hc, if_pos rfl] at this
  exact this.mono fun e w' ⟨he, hb⟩ => ⟨he, hb0.trans (hb.mono (by simp))⟩
theorem perm_ct (L : List Int) (n : Nat) (rules : List Int) (m : Nat) (g : List Int) (gn : Nat) (v : Value) (hv : permVal (exWs 0 L) rules g = v) (hL : ∀ x ∈ L, I64 x) (hl : L.length = n) (hr : rules.length = m) (hmm : m ≤ 1000) (hg : g.length = gn) (hgm : gn ≤ 1000)
    {A B : Option Addr} {cap : Nat} (W : World) (h1 : n ≤ cap) (h2 : cap ≤ maxLen) (hw : WRd W W.heap.size A (exWs 0 L)) (hrr : Rd i64v W W.heap.size B rules) (ht : Tab W) :
    Calls Tryd.prog 11 #[.agg #[.slice A n cap, .slice B m m], .slice (some ⟨W.heap.size, 0, none⟩) gn gn] (W.alloc (.cells (g.map i64v).toArray 3)) fun e w' => e = .returned v ∧ Below W.heap.size W w' := by
  have hb0 := bw_new (Below.refl _ W) (.cells (g.map i64v).toArray 3)
  have hp := (ex_pb (w := W) (m := m) (c2 := m) (B := B) (rules := rules) hL hl hr h1 h2 (Nat.le_refl _) (by unfold maxLen; omega) hw hrr (Below.refl _ _)).below hb0
  have := wperm_any A n cap B m m (exWs 0 L) rules (some ⟨W.heap.size, 0, none⟩) gn gn g (W.heap.size + 1) (W.alloc (.cells (g.map i64v).toArray 3)) (hp.more (by omega)) (by simp) hg (ints_rd g) (Nat.le_refl _) (by unfold maxLen; omega) (ht.alloc _)
  rw [hv] at this
  exact this.mono fun e w' ⟨he, hb⟩ => ⟨he, hb0.trans (hb.mono (by simp))⟩
theorem ex_ct (RB : Option Addr) (rm : Nat) (L : List Int) (n : Nat) (hl : L.length = n) (hn : n ≤ 9) (W : World) :
    Calls Tryd.prog 21 #[.slice RB rm rm, .slice (some ⟨W.heap.size, 0, none⟩) n n] (W.alloc (.cells (L.map i64v).toArray 3)) fun e w' => ∃ A cap, e = .returned (.agg #[.slice A n cap, .slice RB rm rm]) ∧ n ≤ cap ∧ cap ≤ maxLen ∧ WRd w' w'.heap.size A (exWs 0 L) ∧ Below W.heap.size W w' := by
  have hb0 := bw_new (Below.refl _ W) (.cells (L.map i64v).toArray 3)
  have h := example_any RB rm rm (some ⟨W.heap.size, 0, none⟩) n n L (W.alloc (.cells (L.map i64v).toArray 3)) hl hn (by have := ints_rd (w := W) (t := 3) L; simpa using this)
  exact h.mono fun e w' ⟨A, cap, he, h1, h2, h3, hb⟩ => ⟨A, cap, he, h1, h2, h3, hb0.trans (hb.mono (by simp))⟩
theorem both3 (g : List Int) (hg : gpE 3 g = 0) : bothE (exWs 0 l3) [] g = 0 := exB ex3E (by decide) (by decide) rfl hg
theorem both2 (rules g : List Int) (hr : rules.length ≤ 48) (hs : sqE 128 3 none rules = 0) (hg : gpE 2 g = 0) : bothE (exWs 0 l2) rules g = 0 := exB ex2E (by decide) hr hs hg
set_option maxRecDepth 100000 in
set_option maxHeartbeats 4000000 in
theorem wknown_any (w : World) (ht : Tab w) :
    Calls Tryd.prog 6 #[] w fun e w' => e = .returned (.bool true) ∧ Below w.heap.size w w' := by
  have C1 := Lib.hid (fun (A : Option Addr) (cap : Nat) W h1 h2 hw ht => cost_ct l3 3 [0, 1] 2 73 (both3 _ (by decide)) (cost2 [16]) l3_ok rfl rfl (by decide) (A := A) (cap := cap) W h1 h2 hw ht)
  have C2 := Lib.hid (fun (A : Option Addr) (cap : Nat) W h1 h2 hw ht => cost_ct l3 3 [0, 1, 2] 3 85 (both3 _ (by decide)) cost3 l3_ok rfl rfl (by decide) (A := A) (cap := cap) W h1 h2 hw ht)
  have P1 := Lib.hid (fun (A B : Option Addr) (cap : Nat) W h1 h2 hw hr ht => perm_ct l2 2 [12] 1 [0, 1] 2 (.tuple #[.int .i64 0, .int .i64 1, .bool false, .int .i64 0]) (perm_pair (both2 [12] [0, 1] (by decide) (by decide) (by decide)) (by rw [fst_ex]; decide)) l2_ok rfl rfl (by decide) rfl (by decide) (A := A) (B := B) (cap := cap) W h1 h2 hw hr ht)
  have P2 := Lib.hid (fun (A B : Option Addr) (cap : Nat) W h1 h2 hw hr ht => perm_ct l2 2 [] 0 [0, 1] 2 (.tuple #[.int .i64 0, .int .i64 0, .bool true, .int .i64 0]) (by rw [perm_none (both2 [] [0, 1] (by decide) (by decide) (by decide)) (by rw [fst_ex]; decide), cost2 []]; rfl) l2_ok rfl rfl (by decide) rfl (by decide) (A := A) (B := B) (cap := cap) W h1 h2 hw hr ht)
  have X3 := Lib.hid (fun W => ex_ct none 0 l3 3 rfl (by decide) W)
  have X2 := Lib.hid (fun RB rm W => ex_ct RB rm l2 2 rfl (by decide) W)
  go_enter Tryd.func6, Tryd.ntmps6
  go_wp2_with fail
  refine (X3.out _).mono ?_
  rintro e w1 ⟨A1, cap1, rfl, a1, b1, r1, hb1⟩
  have ht1 := ht.below hb1
  go_wp2_with fail
  refine (C1.out _ _ _ a1 b1 r1 ht1).mono ?_
  rintro e w2 ⟨rfl, hk2⟩
  have hb2 := hb1.trans (hk2.mono hb1.size)
  have ht2 := ht.below hb2
  clear hk2 r1 a1 b1 hb1 ht1
  go_wp2_with fail
  refine (X3.out _).mono ?_
  rintro e w3 ⟨A3, cap3, rfl, a3, b3, r3, hk3⟩
  have hb3 := hb2.trans (hk3.mono hb2.size)
  have ht3 := ht.below hb3
  clear hk3 hb2 ht2
  go_wp2_with fail
  refine (C2.out _ _ _ a3 b3 r3 ht3).mono ?_
  rintro e w4 ⟨rfl, hk4⟩
  have hb4 := hb3.trans (hk4.mono hb3.size)
  have ht4 := ht.below hb4
  clear hk4 r3 a3 b3 hb3 ht3
  go_wp2_with fail
  have hrd := ints_rd (w := w4) (t := 3) [12]
  have hb4' := bw_new hb4 (.cells #[.int .i64 12] 3)
  have hx2 := X2.out (some ⟨w4.heap.size, 0, none⟩) 1 (w4.alloc (.cells #[.int .i64 12] 3))
  rw [World.size_alloc] at hx2
  refine hx2.mono ?_
  rintro e w5 ⟨A5, cap5, rfl, a5, b5, r5, hk5⟩
  have hb5 := hb4'.trans (hk5.mono (by have := hb4.size; omega))
  have ht5 := ht.below hb5
  have hrd5 := (hrd.below hk5).more (Bd' := w5.heap.size) (by have := hk5.size; simp at this; omega)
  clear hx2
  clear hk5 hrd hb4 hb4' ht4
  go_wp2_with fail
  refine (P1.out _ _ _ _ a5 b5 r5 hrd5 ht5).mono ?_
  rintro e w6 ⟨rfl, hk6⟩
  have hb6 := hb5.trans (hk6.mono hb5.size)
  have ht6 := ht.below hb6
  clear hk6 r5 a5 b5 hb5 ht5 hrd5
  go_wp2_with fail
  refine (X2.out _ _ _).mono ?_
  rintro e w7 ⟨A7, cap7, rfl, a7, b7, r7, hk7⟩
  have hb7 := hb6.trans (hk7.mono hb6.size)
  have ht7 := ht.below hb7
  clear hk7 hb6 ht6
  go_wp2_with fail
  refine (P2.out _ _ _ _ a7 b7 r7 Rd.nil ht7).mono ?_
  rintro e w8 ⟨rfl, hk8⟩
  have hb8 := hb7.trans (hk8.mono hb7.size)
  clear hk8 r7 a7 b7 hb7 ht7
  go_wp2
  go_ret
  exact ⟨rfl, hb8⟩
end Go.Proofs.YtkamepalomkpbaaDoor
namespace Go.Proofs.YtkamepalomkpbaaDoor
section
open Go.RowKit
def pits : List (Nat × Nat) := [(8, 1), (4, 1), (16, 1), (2, 1), (8, 3), (8, 5)]
def pitN (k : Nat) : Nat := (pits[k]?.getD (0, 0)).1
def pitD (k : Nat) : Nat := (pits[k]?.getD (0, 0)).2
def frC : List (Nat × Nat) → List Value
  | [] => []
  | p :: L => .int .i64 p.1 :: .int .i64 p.2 :: frC L
structure Wnt where
  dv : Nat
  tn : Nat
  ft : Nat
  lo : Nat
  ks : Nat
def reed : ByteArray := ⟨#[114, 101, 101, 100]⟩
def toneOf (r : Nat) : ByteArray := if r = 0 then flute else reed
def mkW (i : Nat) (x : Wnt) : Wsh := ⟨wName i, (x.dv % 2 : Nat), toneOf (x.tn % 2), (pitN (x.ft % 6) : Nat), (pitD (x.ft % 6) : Nat), 36 + (x.lo % 24 : Nat), 36 + (x.lo % 24 : Nat) + (x.ks % 16 : Nat)⟩
def mkWs : Nat → List Wnt → List Wsh
  | _, [] => []
  | i, x :: r => mkW i x :: mkWs (i + 1) r
def NAt (w : World) (b o : Nat) (x : Wnt) : Prop :=
  w.cell? ⟨b, o, none⟩ = some (.int .u8 x.dv) ∧ w.cell? ⟨b, o + 1, none⟩ = some (.int .u8 x.tn) ∧ w.cell? ⟨b, o + 2, none⟩ = some (.int .u8 x.ft) ∧ w.cell? ⟨b, o + 3, none⟩ = some (.int .u8 x.lo) ∧ w.cell? ⟨b, o + 4, none⟩ = some (.int .u8 x.ks)
def NRd (w : World) (Bd : Nat) (A : Option Addr) (l : List Wnt) : Prop :=
  0 < l.length → ∃ b off, A = some ⟨b, off, none⟩ ∧ b < Bd ∧ ∀ i (h : i < l.length), NAt w b (off + i * 5) l[i] ∧ l[i].dv ≤ 255 ∧ l[i].tn ≤ 255 ∧ l[i].ft ≤ 255 ∧ l[i].lo ≤ 255 ∧ l[i].ks ≤ 255
def MkRel (w : World) (XA : Option Addr) (xn xc : Nat) (bits : Nat) (A : Option Addr) (k cap : Nat) (L : List Wnt) (wr : World) : Prop :=
  wr.ownsRow (w.heap.size + 3) 48 7 (.slice A k cap) k (wsCells (mkWs 0 (L.take k))) ∧ Blk wr w.heap.size 24 [.slice XA xn xc, .int .u8 bits] ∧ Blk wr (w.heap.size + 1) 29 [.slice none 0 0, .slice none 0 0] ∧
    Blk wr (w.heap.size + 1 + 1) 29 [.slice A k cap, .slice none 0 0] ∧ NRd wr w.heap.size XA L ∧ Below w.heap.size w wr ∧ w.heap.size + 3 ≤ wr.heap.size
def rl : List Int := [0, 7, 12, 24, 28]
def bitB (n : Nat) (j : Nat) : Bool := Go.bits .and .u8 ((n : Int) / 2 ^ j) 1 == 1
def ruP (n : Nat) : Nat → List Int
  | 0 => []
  | j + 1 => ruP n j ++ if bitB n j then [rl[j]?.getD 0] else []
def RuRel (w : World) (XA : Option Addr) (xn xc : Nat) (bits : Nat) (A : Option Addr) (k cap : Nat) (gR : Nat) (ws : List Wsh) (RA : Option Addr) (rn rc : Nat) (j : Nat) (wx : World) : Prop :=
  wx.ownsRow (gR + 1) 3 1 (.slice RA rn rc) rn ((ruP bits j).map i64v) ∧ wx.ownsRow (w.heap.size + 3) 48 7 (.slice A k cap) k (wsCells ws) ∧
    (Blk wx w.heap.size 24 [.slice XA xn xc, .int .u8 bits] ∧ Blk wx (w.heap.size + 1) 29 [.slice none 0 0, .slice none 0 0]) ∧
    Blk wx (w.heap.size + 1 + 1) 29 [.slice A k cap, .slice RA rn rc] ∧ Blk wx gR 3 (rl.map i64v) ∧ Below w.heap.size w wx ∧ gR + 1 ≤ wx.heap.size ∧ w.heap.size + 3 ≤ gR
def MkMid (w : World) (XA : Option Addr) (xn xc : Nat) (bits : Nat) (A : Option Addr) (k cap : Nat) (g cap2 : Nat) (L : List Wnt) (wr : World) : Prop :=
  wr.ownsRow (w.heap.size + 3) 48 7 (.slice (some ⟨g, 0, none⟩) (k + 1) cap2) (k + 1) (wsCells (mkWs 0 (L.take (k + 1)))) ∧ (Blk wr w.heap.size 24 [.slice XA xn xc, .int .u8 bits] ∧ Blk wr (w.heap.size + 1) 29 [.slice none 0 0, .slice none 0 0]) ∧
    Blk wr (w.heap.size + 1 + 1) 29 [.slice A k cap, .slice none 0 0] ∧ NRd wr w.heap.size XA L ∧ Below w.heap.size w wr ∧ w.heap.size + 3 ≤ wr.heap.size ∧ w.heap.size + 3 ≤ g
end
section
open Go.RowKit
instance (n d : Int) : Decidable (PR n d) := by unfold PR; infer_instance
def gP (n : Nat) : Nat → List Int
  | 0 => []
  | j + 1 => gP n j ++ if bitB n j then [(j : Int)] else []
end
end Go.Proofs.YtkamepalomkpbaaDoor
