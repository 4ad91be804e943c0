/- Package bombardelaw37: feet and Example. Conditions: at most nine wishes. -/
import Derived.Test.YtkamepalomkpbaaGreatDoorWishFirst
import Derived.Test.YtkamepalomkpbaaGreatDoorRegE
import Derived.Deep.AppendLies
namespace Go.Proofs.YtkamepalomkpbaaGreatDoor
open Go.RowKit

set_option maxRecDepth 100000 in
theorem feet_any (n : Int) (w : World) : Calls Tryz.prog 17 #[.int .i64 n] w fun e w' => e = .returned (.agg #[.int .i64 n, .int .i64 1]) ∧ Below w.heap.size w w' := by
  go_enter Tryz.func17, Tryz.ntmps17
  go_wp2
  refine bodyPost_ret (v := .agg #[.int .i64 n, .int .i64 1]) (by simp [results, Tryz.results17, go_sem]) rfl ⟨rfl, ?_⟩
  exact bw_new (Below.refl _ _) _

/-- The wishes of an example. -/
def flute : ByteArray := ⟨#[102, 108, 117, 116, 101]⟩
def wDig (i : Nat) : ByteArray := ⟨#[UInt8.ofNat (48 + i)]⟩
def wName (i : Nat) : ByteArray := ⟨#[119]⟩ ++ wDig i
def exW (i : Nat) (n : Int) : Wsh := ⟨wName i, 0, flute, n, 1, 36, 96⟩
def exWs : Nat → List Int → List Wsh
  | _, [] => []
  | i, n :: r => exW i n :: exWs (i + 1) r
theorem exWs_append (i : Nat) (l m : List Int) : exWs i (l ++ m) = exWs i l ++ exWs (i + l.length) m := by
  induction l generalizing i with
  | nil => simp [exWs]
  | cons x r ih => simp [exWs, ih]; congr 1; omega
theorem exWs_snoc (l : List Int) (k : Nat) (h : k < l.length) : exWs 0 (l.take (k + 1)) = exWs 0 (l.take k) ++ [exW k l[k]] := by
  rw [take_snoc l k h, exWs_append, List.length_take]
  rw [show 0 + min k l.length = k by omega]
  rfl
theorem exWs_length (i : Nat) (l : List Int) : (exWs i l).length = l.length := by
  induction l generalizing i with
  | nil => rfl
  | cons x r ih => simp [exWs, ih]
def wsCells (ws : List Wsh) : List Value := ws.flatMap Wsh.cells
theorem wsCells_snoc (ws : List Wsh) (x : Wsh) : wsCells (ws ++ [x]) = wsCells ws ++ x.cells := by simp [wsCells]
theorem wsCells_length (ws : List Wsh) : (wsCells ws).length = 7 * ws.length := by
  induction ws with
  | nil => rfl
  | cons x r ih => simp only [wsCells, List.flatMap_cons, List.length_append, List.length_cons] at ih ⊢; rw [ih]; simp [Wsh.cells]; omega
theorem wsCells_get (ws : List Wsh) (k : Nat) (h : k < ws.length) (j : Nat) (hj : j < 7) : (wsCells ws)[k * 7 + j]? = (ws[k].cells)[j]? := by
  induction ws generalizing k with
  | nil => simp at h
  | cons x r ih =>
    have e : wsCells (x :: r) = x.cells ++ wsCells r := rfl
    have hl : x.cells.length = 7 := rfl
    cases k with
    | zero => rw [e, Nat.zero_mul, Nat.zero_add, List.getElem?_append_left (by omega)]; rfl
    | succ k =>
      rw [e, List.getElem?_append_right (by omega), hl, show (k + 1) * 7 + j - 7 = k * 7 + j by omega]
      exact ih k (by simpa using h)
theorem infoWish : (Tryz.prog.info? 51).map (fun i => (i.zero, i.size, i.bytes)) = some (some (.agg #[.string ⟨#[]⟩, .int .i64 0, .string ⟨#[]⟩, .int .i64 0, .int .i64 0, .int .i64 0, .int .i64 0]), 7, 72) := by kernel_rfl
/-- A row of wishes of one's own reads as these. -/
theorem WRd.of_own {w : World} {base n c m : Nat} {A : Option Addr} {ws : List Wsh} (h : w.ownsRow base 51 7 (.slice A n c) m (wsCells ws)) (hn : m = ws.length) : WRd w w.heap.size A ws := fun hl => by
  rcases h.2 with ⟨hv, h0⟩ | ⟨g, cap, cur, hv, hb, hg, hnc, _, hs, ht⟩
  · omega
  · injection hv with h1 h2 h3
    subst h1
    have hlt : g < w.heap.size := by
      rcases Nat.lt_or_ge g w.heap.size with hlt | hge
      · exact hlt
      · rw [Array.getElem?_eq_none hge] at hg; cases hg
    refine ⟨g, 0, rfl, hlt, fun i hi => ?_⟩
    have key : ∀ j, j < 7 → w.cell? ⟨g, 0 + i * 7 + j, none⟩ = (ws[i].cells)[j]? := fun j hj => by
      rw [cell_of_row w g _ cur 51 (0, 0) hg, Nat.zero_add, ← wsCells_get ws i hi j hj, ← ht, List.getElem?_take, if_pos (by omega)]
      simp
    exact ⟨key 0 (by omega), key 1 (by omega), key 2 (by omega), key 3 (by omega), key 4 (by omega), key 5 (by omega), key 6 (by omega)⟩

theorem own_below {w w' : World} {base : Nat} {e : TypeId} {size n : Nat} {v : Value} {xs : List Value} (h : w.ownsRow base e size v n xs) (hb : Below w.heap.size w w') : w'.ownsRow base e size v n xs := by
  refine ⟨h.1, ?_⟩
  rcases h.2 with h0 | ⟨g, cap, cur, hv, hbs, hg, hr⟩
  · exact .inl h0
  · right
    have hlt : g < w.heap.size := by
      rcases Nat.lt_or_ge g w.heap.size with hlt | hge
      · exact hlt
      · rw [Array.getElem?_eq_none hge] at hg; cases hg
    exact ⟨g, cap, cur, hv, hbs, (hb.block g hlt).trans hg, hr⟩

theorem own_far {w : World} {base : Nat} {e : TypeId} {size n : Nat} {v : Value} {xs : List Value} (h : w.ownsRow base e size v n xs) {p : Addr} (hp : ∀ q, v.ownBlock = some q → q ≠ p.block) (u : Value) : (w.setCell p u).ownsRow base e size v n xs := by
  refine ⟨h.1, ?_⟩
  rcases h.2 with h0 | ⟨g, cap, cur, hv, hbs, hg, hr⟩
  · exact .inl h0
  · right
    have hne : g ≠ p.block := hp g (by rw [hv]; rfl)
    exact ⟨g, cap, cur, hv, hbs, (Below.heap_setCell w p u g hne).trans hg, hr⟩

/-- What the loop of Example carries. -/
def ExRel (w : World) (R : Value) (sv : Value) (k : Nat) (L : List Int) (LA : Option Addr) (wr : World) : Prop :=
  wr.ownsRow (w.heap.size + 2) 51 7 sv k (wsCells (exWs 0 (L.take k))) ∧ Blk wr w.heap.size 29 [.slice none 0 0, .slice none 0 0] ∧ Blk wr (w.heap.size + 1) 29 [sv, R] ∧
    Rd i64v wr w.heap.size LA L ∧ Below w.heap.size w wr ∧ w.heap.size + 2 ≤ wr.heap.size
theorem ExRel.below {w wr w' : World} {R sv : Value} {k : Nat} {L : List Int} {LA : Option Addr} (h : ExRel w R sv k L LA wr) (hb : Below wr.heap.size wr w') : ExRel w R sv k L LA w' := by
  obtain ⟨h1, h2, h3, h4, h5, h6⟩ := h
  exact ⟨own_below h1 hb, h2.keep hb, h3.keep hb, h4.below (hb.mono (by omega)), h5.trans (hb.mono h5.size), by have := hb.size; omega⟩

set_option maxRecDepth 100000 in
set_option maxHeartbeats 4000000 in
theorem example_any (RB : Option Addr) (rm rc : Nat) (LA : Option Addr) (n c : Nat) (L : List Int) (w : World) (hL : L.length = n) (hn : n ≤ 9) (hr : Rd i64v w w.heap.size LA L) :
    Calls Tryz.prog 26 #[.slice RB rm rc, .slice LA n c] w fun e w' => ∃ A cap, e = .returned (.agg #[.slice A n cap, .slice RB rm rc]) ∧ n ≤ cap ∧ cap ≤ maxLen ∧ WRd w' w'.heap.size A (exWs 0 L) ∧ Below w.heap.size w w' := by
  obtain ⟨i0, hi, hz0, hz1, hz2⟩ := info_parts infoWish
  have HHI := Lib.hid hi
  have HZ0 := Lib.hid hz0
  have HZ1 := Lib.hid hz1
  have HZ2 := Lib.hid hz2
  have HL := Lib.hid hL
  have hb0 := (bw_new (bw_new (Below.refl _ w) (.cells #[.slice none 0 0, .slice none 0 0] 29)) (.cells #[.slice none 0 0, .slice RB rm rc] 29))
  have hrel : ExRel w (.slice RB rm rc) (.slice none 0 0) 0 L LA ((w.alloc (.cells #[.slice none 0 0, .slice none 0 0] 29)).alloc (.cells #[.slice none 0 0, .slice RB rm rc] 29)) := by
    refine ⟨World.ownsRow_nil _ _ _ _, Blk.new.alloc _, ?_, hr.below hb0, hb0, by simp⟩
    have := Blk.new (w := w.alloc (.cells #[.slice none 0 0, .slice none 0 0] 29)) (t := 29) (cs := [.slice none 0 0, .slice RB rm rc])
    rw [World.size_alloc] at this
    exact this
  have HREL := Lib.hid hrel
  clear hi hz0 hz1 hz2 hL hr hb0 hrel
  go_enter Tryz.func26, Tryz.ntmps26
  go_wp2_with fail
  go_loopw [12] (fun v wr => ∃ (k : Nat) (A : Option Addr) (cap : Nat), k ≤ n ∧ v = .int .i64 k ∧ ExRel w (.slice RB rm rc) (.slice A k cap) k L LA wr) (fun v _ => n - (intOf v).toNat)
  case atStart => exact ⟨0, _, _, by omega, rfl, HREL.out⟩
  case round =>
    obtain ⟨k, A, cap, hk, rfl, hrel⟩ := hrel
    have HRL := Lib.hid hrel
    have hs : w.heap.size + 2 ≤ wr.heap.size := hrel.2.2.2.2.2
    clear hrel
    by_cases hlt : k < n
    · have hltL : k < L.length := by rw [HL.out]; exact hlt
      obtain ⟨lb, lo, rfl, hlb, hlc⟩ := rd_at HRL.out.2.2.2.1 (by omega)
      have hck := hlc k hltL
      obtain ⟨x, hx⟩ : ∃ x, x = L[k] := ⟨_, rfl⟩
      rw [← hx] at hck
      have HX := Lib.hid hx
      obtain ⟨p0, p1⟩ := HRL.out.2.2.1.two
      clear hlc hx
      go_wp2_with fail
      refine wp_regionE' 15 (fun w' => w'.cell? ⟨w.heap.size + 1, 0, none⟩ = some (.slice A k cap)) 16 #[false, false, false, false, false, false, false, false, false, false, false, false, false, false, false, false] (by kernel_rfl) (by kernel_rfl) (by kernel_rfl) ?_
      have hS : wr.drew.cell? ⟨w.heap.size + 1, 0, none⟩ = some (.slice A k cap) := p0
      have hk48 : (0 : Int) ≤ 48 + (k : Int) ∧ 48 + (k : Int) ≤ 57 := by omega
      have hw1 : IntKind.i64.wrap (48 + (k : Int)) = 48 + (k : Int) := IntWalk.i64_in _ (by omega)
      have hw2 : IntKind.u8.wrap (48 + (k : Int)) = 48 + (k : Int) := IntWalk.u8_in _ ⟨hk48.1, Int.le_trans hk48.2 (by decide)⟩
      refine wpAnyE_tk (i := 0) (v := ?_) #[true, false, false, false, false, false, false, false, false, false, false, false, false, false, false, false] (some 17) rfl rfl (by kernel_rfl) (by kernel_rfl) (by kernel_rfl) (by kernel_rfl) (by kernel_rfl) (fun _ _ _ h => h) (Or.inl ⟨by rfl, ?_⟩) hS ?_
      rotate_left
      · (intro w hSw; (try dsimp only at hSw); go_simp; all_goals with_reducible rfl)
      simp only [Act.put]
      refine wpAnyE_tk (i := 1) (v := ?_) #[true, true, false, false, false, false, false, false, false, false, false, false, false, false, false, false] (some 18) rfl rfl (by kernel_rfl) (by kernel_rfl) (by kernel_rfl) (by kernel_rfl) (by kernel_rfl) (fun _ _ _ h => h) (Or.inl ⟨by rfl, ?_⟩) hS ?_
      rotate_left
      · (intro w hSw; (try dsimp only at hSw); go_simp; all_goals with_reducible rfl)
      simp only [Act.put]
      refine wpAnyE_tk (i := 2) (v := ?_) #[true, true, true, false, false, false, false, false, false, false, false, false, false, false, false, false] (some 19) rfl rfl (by kernel_rfl) (by kernel_rfl) (by kernel_rfl) (by kernel_rfl) (by kernel_rfl) (fun _ _ _ h => h) (Or.inl ⟨by rfl, ?_⟩) hS ?_
      rotate_left
      · (intro w hSw; (try dsimp only at hSw); go_simp; all_goals with_reducible rfl)
      simp only [Act.put]
      refine wpAnyE_tk (i := 3) (v := ?_) #[true, true, true, true, false, false, false, false, false, false, false, false, false, false, false, false] (some 20) rfl rfl (by kernel_rfl) (by kernel_rfl) (by kernel_rfl) (by kernel_rfl) (by kernel_rfl) (fun _ _ _ h => h) (Or.inl ⟨by rfl, ?_⟩) hS ?_
      rotate_left
      · (intro w hSw; (try dsimp only at hSw); go_simp; all_goals with_reducible rfl)
      simp only [Act.put]
      refine wpAnyE_tk (i := 4) (v := ?_) #[true, true, true, true, true, false, false, false, false, false, false, false, false, false, false, false] (some 21) rfl rfl (by kernel_rfl) (by kernel_rfl) (by kernel_rfl) (by kernel_rfl) (by kernel_rfl) (fun _ _ _ h => h) (Or.inl ⟨by rfl, ?_⟩) hS ?_
      rotate_left
      · (intro w hSw; (try dsimp only at hSw); go_simp; all_goals with_reducible rfl)
      simp only [Act.put]
      refine wpAnyE_tk (i := 8) (v := ?_) #[true, true, true, true, true, false, false, false, true, false, false, false, false, false, false, false] (some 25) rfl rfl (by kernel_rfl) (by kernel_rfl) (by kernel_rfl) (by kernel_rfl) (by kernel_rfl) (fun _ _ _ h => h) (Or.inl ⟨by rfl, ?_⟩) hS ?_
      rotate_left
      · (intro w hSw; (try dsimp only at hSw); go_simp; all_goals with_reducible rfl)
      simp only [Act.put]
      refine wpAnyE_tk (i := 10) (v := ?_) #[true, true, true, true, true, false, false, false, true, false, true, false, false, false, false, false] (some 27) rfl rfl (by kernel_rfl) (by kernel_rfl) (by kernel_rfl) (by kernel_rfl) (by kernel_rfl) (fun _ _ _ h => h) (Or.inl ⟨by rfl, ?_⟩) hS ?_
      rotate_left
      · (intro w hSw; (try dsimp only at hSw); go_simp; all_goals with_reducible rfl)
      simp only [Act.put]
      obtain ⟨sd, hsd⟩ : ∃ sd, sd = wDig k := ⟨_, rfl⟩
      have hconv : ∀ (w' : World) (b : Nat), w'.cell? ⟨b, 0, none⟩ = some (.int .u8 (48 + (k : Int))) → (convert 70 9 (.slice (some ⟨b, 0, none⟩) 1 1)).run Tryz.prog w' = .ok (.string sd) w' := fun w' b hb => by
        rw [hsd]
        have := run_convert_bytes_back (P := Tryz.prog) w' 70 9 5 ⟨b, 0, none⟩ 1 [UInt8.ofNat (48 + k)] Tryz.underlying70 Tryz.underlying5 Tryz.underlying9 (fun j hj => by
          obtain rfl : j = 0 := by simpa using hj
          rw [show (Addr.mk b 0 none).add 0 = ⟨b, 0, none⟩ from rfl, hb]
          congr 2
          rw [List.getElem_cons_zero, UInt8.toNat_ofNat']
          omega)
        exact this
      have hsz : ¬ (9223372036854775807 < 1 + sd.size) := by rw [hsd, show (wDig k).size = 1 from rfl]; decide
      have HSD := Lib.hid hsd
      clear hsd
      refine wpAnyE_ready (rs := [5, 9]) (by kernel_rfl) (by simp) ?_
      refine AllE.cons' (o := _) #[true, true, true, true, true, true, false, false, true, false, true, false, false, false, false, false] rfl (by kernel_rfl) (fun K hK => ?_) (AllE.cons' (o := _) #[true, true, true, true, true, false, false, false, true, true, true, false, false, false, false, false] rfl (by kernel_rfl) (fun K hK => ?_) AllE.nil)
      · go_simp
        obtain ⟨W5, hW5⟩ : ∃ W5, W5 = (wr.alloc (.cells #[.int .u8 (48 + (k : Int))] 5)).drew := ⟨_, rfl⟩
        rw [← hW5]
        have hE5 := HRL.out.below (w' := W5) (by rw [hW5]; exact bw_drew (bw_new (Below.refl _ _) _))
        have hc5 : W5.cell? ⟨wr.heap.size, 0, none⟩ = some (.int .u8 (48 + (k : Int))) := by rw [hW5]; exact (Blk.new (w := wr) (cs := [.int .u8 (48 + (k : Int))])).cell 0
        have hl5 : wr.heap.size < W5.heap.size := by rw [hW5]; simp
        have HE5 := Lib.hid hE5
        refine hK.out _ _ (fun _ => hE5.2.2.1.two.1) ?_
        clear hK K hW5 hE5 p0 p1 hck
        try simp only [Act.put]
        refine wpAnyE_more (S' := fun w' => w'.cell? ⟨w.heap.size + 1, 0, none⟩ = some (.slice A k cap) ∧ w'.cell? ⟨wr.heap.size, 0, none⟩ = some (.int .u8 (48 + (k : Int)))) (fun _ h => h.1) _ _ _ _ ?_
        replace hS := And.intro HE5.out.2.2.1.two.1 hc5
        refine wpAnyE_tk (i := 6) (v := ?_) #[true, true, true, true, true, true, true, false, true, false, true, false, false, false, false, false] (some 23) rfl rfl (by kernel_rfl) (by kernel_rfl) (by kernel_rfl) (by kernel_rfl) (by kernel_rfl) (fun _ _ _ h => h) (Or.inl ⟨by rfl, ?_⟩) hS ?_
        rotate_left
        · (intro w hSw; (try dsimp only at hSw); go_simp; all_goals with_reducible rfl)
        simp only [Act.put]
        refine wpAnyE_tk (i := 7) (v := ?_) #[true, true, true, true, true, true, true, true, true, false, true, false, false, false, false, false] (some 24) rfl rfl (by kernel_rfl) (by kernel_rfl) (by kernel_rfl) (by kernel_rfl) (by kernel_rfl) (fun _ _ _ h => h) (Or.inl ⟨by rfl, ?_⟩) hS ?_
        rotate_left
        · (intro w hSw; (try dsimp only at hSw); go_simp; all_goals with_reducible rfl)
        simp only [Act.put]
        refine wpAnyE_ready (rs := [9]) (by kernel_rfl) (by simp) ?_
        refine AllE.cons' (o := _) #[true, true, true, true, true, true, true, true, true, true, true, false, false, false, false, false] rfl (by kernel_rfl) (fun K hK => ?_) AllE.nil
        go_simp
        refine (feet_any _ _).mono ?_
        rintro e W7 ⟨rfl, hk7⟩
        dsimp only
        have hE7 := HE5.out.below hk7
        have hc7 := ((bcell hk7).1 wr.heap.size 0 hl5).trans hc5
        have hlt7 : wr.heap.size < W7.heap.size := Nat.lt_of_lt_of_le hl5 hk7.size
        have HE7 := Lib.hid hE7
        refine hK.out _ _ (fun _ => ⟨hE7.2.2.1.two.1, hc7⟩) ?_
        replace hS := And.intro HE7.out.2.2.1.two.1 hc7
        clear hK K hk7 hE7
        try simp only [Act.put]
        refine wpAnyE_tk (i := 11) (v := ?_) #[true, true, true, true, true, true, true, true, true, true, true, true, false, false, false, false] (some 28) rfl rfl (by kernel_rfl) (by kernel_rfl) (by kernel_rfl) (by kernel_rfl) (by kernel_rfl) (fun _ _ _ h => h) (Or.inl ⟨by rfl, ?_⟩) hS ?_
        rotate_left
        · (intro w hSw; (try dsimp only at hSw); go_simp; all_goals with_reducible rfl)
        simp only [Act.put]
        refine wpAnyE_ready (rs := [12]) (by kernel_rfl) (by simp) ?_
        refine AllE.cons' (o := _) #[true, true, true, true, true, true, true, true, true, true, true, true, true, false, false, false] rfl (by kernel_rfl) (fun K hK => ?_) AllE.nil
        go_simp
        have hE9 := HE7.out.below (bw_new (Below.refl _ _) (.cells #[.string (⟨#[119]⟩ ++ sd), .int .i64 0, .string ⟨#[102, 108, 117, 116, 101]⟩, .int .i64 x, .int .i64 1, .int .i64 36, .int .i64 96] 51))
        refine hK.out _ _ (fun _ => ⟨hE9.2.2.1.two.1, by rw [World.cell?_alloc_lt _ _ _ hlt7]; exact hS.2⟩) ?_
        have hlt9 : wr.heap.size < (W7.alloc (.cells #[.string (⟨#[119]⟩ ++ sd), .int .i64 0, .string ⟨#[102, 108, 117, 116, 101]⟩, .int .i64 x, .int .i64 1, .int .i64 36, .int .i64 96] 51)).heap.size := by simp; omega
        replace hS := And.intro hE9.2.2.1.two.1 ((World.cell?_alloc_lt W7 (.cells #[.string (⟨#[119]⟩ ++ sd), .int .i64 0, .string ⟨#[102, 108, 117, 116, 101]⟩, .int .i64 x, .int .i64 1, .int .i64 36, .int .i64 96] 51) ⟨wr.heap.size, 0, none⟩ hlt7).trans hS.2)
        have HE9 := Lib.hid hE9
        clear hK K hE9
        try simp only [Act.put]
        refine wpAnyE_ready (rs := [13]) (by kernel_rfl) (by simp) ?_
        refine AllE.cons' (o := _) #[true, true, true, true, true, true, true, true, true, true, true, true, true, true, false, false] rfl (by kernel_rfl) (fun K hK => ?_) AllE.nil
        refine step_append_lies _ (by rfl) _ _ _ (by rfl) (w.heap.size + 2) 51 i0 (.agg #[.string ⟨#[]⟩, .int .i64 0, .string ⟨#[]⟩, .int .i64 0, .int .i64 0, .int .i64 0, .int .i64 0]) 7 72 Tryz.underlying27 HHI.out HZ0.out HZ1.out HZ2.out rfl (by decide) (.slice A k cap) k (wsCells (exWs 0 (L.take k))) (by rfl) HE9.out.1
          ⟨W7.heap.size, 0, none⟩ 1 1 [.string (⟨#[119]⟩ ++ sd), .int .i64 0, .string ⟨#[102, 108, 117, 116, 101]⟩, .int .i64 x, .int .i64 1, .int .i64 36, .int .i64 96] (by rfl) (by rfl) (World.news_of_block (cs := #[.string (⟨#[119]⟩ ++ sd), .int .i64 0, .string ⟨#[102, 108, 117, 116, 101]⟩, .int .i64 x, .int .i64 1, .int .i64 36, .int .i64 96]) (t := 51) (fr := (0, 0)) (heap_alloc_new W7 _)) (by simp [Value.oneCell'])
          (by omega) (by unfold maxLen; omega) (by omega) (Nat.le_trans (show w.heap.size + 2 ≤ wr.heap.size from hs) (Nat.le_of_lt hlt9)) (W7.heap.size + 1) (by simp) ?_
        intro g cap2 W10 hown hgrow hat hlt
        have hne1 : some (w.heap.size + 1) ≠ (Value.slice A k cap).ownBlock := fun e => by have := (HE9.out.1.lt _ e.symm).1; omega
        have hne0 : some w.heap.size ≠ (Value.slice A k cap).ownBlock := fun e => by have := (HE9.out.1.lt _ e.symm).1; omega
        have hne2 : some wr.heap.size ≠ (Value.slice A k cap).ownBlock := fun e => by have := (HRL.out.1.lt _ e.symm).2; omega
        have hB0 := HE9.out.2.1.grown hgrow hne0
        have hB1 := HE9.out.2.2.1.grown hgrow hne1
        have hbg : Below w.heap.size _ W10 := (Below.refl w.heap.size _).grown hgrow (Nat.le_trans (by omega) HE9.out.2.2.2.2.2) (fun r e => by have := (HE9.out.1.lt _ e).1; omega)
        have hsg : w.heap.size + 2 ≤ W10.heap.size := Nat.le_trans HE9.out.2.2.2.2.2 hgrow.size
        have hRd := HE9.out.2.2.2.1.below hbg
        have hBw := HE9.out.2.2.2.2.1.trans hbg
        have hgb : w.heap.size + 2 ≤ g := by
          rcases hat with h | h
          · exact (HE9.out.1.lt _ h).1
          · rw [h]; omega
        have hnx : L[k] = x := HX.out.symm
        have hown' : W10.ownsRow (w.heap.size + 2) 51 7 (.slice (some ⟨g, 0, none⟩) (k + 1) cap2) (k + 1) (wsCells (exWs 0 (L.take (k + 1)))) := by
          rw [exWs_snoc L k hltL, wsCells_snoc, hnx]
          have e : (exW k x).cells = [.string (⟨#[119]⟩ ++ sd), .int .i64 0, .string ⟨#[102, 108, 117, 116, 101]⟩, .int .i64 x, .int .i64 1, .int .i64 36, .int .i64 96] := by rw [HSD.out]; rfl
          rw [e]; exact hown
        obtain ⟨q0, q1⟩ := hB1.two
        have q2 := hB1.frozen 0
        have HC := Lib.hid (And.intro hown' (And.intro hB0 (And.intro hB1 (And.intro hRd (And.intro hBw (And.intro hsg hgb))))))
        refine hK.out _ _ (fun _ => ⟨q0, (World.cell?_of_block (hgrow.block _ hlt9 hne2)).trans hS.2⟩) ?_
        replace hS := And.intro q0 ((World.cell?_of_block (hgrow.block _ hlt9 hne2)).trans hS.2)
        clear hK K hown hown' hB0 hB1 hRd hBw hsg hgb hbg hat hnx
        try simp only [Act.put]
        refine wpAnyE_tk (i := 14) (v := ?_) #[true, true, true, true, true, true, true, true, true, true, true, true, true, true, true, false] (some 31) rfl rfl (by kernel_rfl) (by kernel_rfl) (by kernel_rfl) (by kernel_rfl) (by kernel_rfl) (fun _ _ _ h => h) (Or.inl ⟨by rfl, ?_⟩) hS ?_
        rotate_left
        · (intro w hSw; (try dsimp only at hSw); go_simp; all_goals with_reducible rfl)
        simp only [Act.put]
        refine wpAnyE_ready (rs := [15]) (by kernel_rfl) (by simp) ?_
        refine AllE.cons' (o := _) #[true, true, true, true, true, true, true, true, true, true, true, true, true, true, true, true] rfl (by kernel_rfl) (fun K hK => ?_) AllE.nil
        go_simp
        refine hK.out _ _ (fun h => absurd rfl h) ?_
        clear hK K hS
        try simp only [Act.put]
        refine wpAnyE_done (by kernel_rfl) ?_ _
        clear q0 q1 q2 hw1 hw2 hconv hsz
        obtain ⟨c1, c2, c3, c4, c5, c6, c7⟩ := HC.out
        have HF : Hid (ExRel w (.slice RB rm rc) (.slice (some ⟨g, 0, none⟩) (k + 1) cap2) (k + 1) L (some ⟨lb, lo, none⟩) (W10.setCell ⟨w.heap.size + 1, 0, none⟩ (.slice (some ⟨g, 0, none⟩) (k + 1) cap2))) :=
          Lib.hid ⟨own_far c1 (fun q hq => by have := (c1.lt q hq).1; show q ≠ w.heap.size + 1; omega) _, c2.far (by show w.heap.size ≠ w.heap.size + 1; omega) _, c3.put 0 _, c4.below (bw_set (Below.refl _ _) (by omega) _), bw_set c5 (by omega) _, by simpa using c6⟩
        clear c1 c2 c3 c4 c5 c6 c7
        go_wp2
        go_roundw
        case rel => exact ⟨k + 1, _, _, by omega, by go_num, HF.out⟩
        case measure => simp [intOf]; omega
      · go_simp
        refine (feet_any _ _).mono ?_
        rintro e W5 ⟨rfl, hk5⟩
        dsimp only
        have hE5 := (HRL.out.below (bw_drew (Below.refl _ _))).below hk5
        have hl5 : wr.heap.size ≤ W5.heap.size := hk5.size
        have HE5 := Lib.hid hE5
        refine hK.out _ _ (fun _ => hE5.2.2.1.two.1) ?_
        replace hS := HE5.out.2.2.1.two.1
        clear hK K hk5 hE5 p0 p1 hck
        try simp only [Act.put]
        refine wpAnyE_ready (rs := [5]) (by kernel_rfl) (by simp) ?_
        refine AllE.cons' (o := _) #[true, true, true, true, true, true, false, false, true, true, true, false, false, false, false, false] rfl (by kernel_rfl) (fun K hK => ?_) AllE.nil
        go_simp
        obtain ⟨W7, hW7⟩ : ∃ W7, W7 = W5.alloc (.cells #[.int .u8 (48 + (k : Int))] 5) := ⟨_, rfl⟩
        rw [← hW7]
        have hE7 := HE5.out.below (w' := W7) (by rw [hW7]; exact (bw_new (Below.refl _ _) _))
        have hc7 : W7.cell? ⟨W5.heap.size, 0, none⟩ = some (.int .u8 (48 + (k : Int))) := by rw [hW7]; exact (Blk.new (w := W5) (cs := [.int .u8 (48 + (k : Int))])).cell 0
        have hlt7 : W5.heap.size < W7.heap.size := by rw [hW7]; simp
        have HE7 := Lib.hid hE7
        refine hK.out _ _ (fun _ => hE7.2.2.1.two.1) ?_
        clear hK K hW7 hE7
        try simp only [Act.put]
        refine wpAnyE_more (S' := fun w' => w'.cell? ⟨w.heap.size + 1, 0, none⟩ = some (.slice A k cap) ∧ w'.cell? ⟨W5.heap.size, 0, none⟩ = some (.int .u8 (48 + (k : Int)))) (fun _ h => h.1) _ _ _ _ ?_
        replace hS := And.intro HE7.out.2.2.1.two.1 hc7
        refine wpAnyE_tk (i := 6) (v := ?_) #[true, true, true, true, true, true, true, false, true, true, true, false, false, false, false, false] (some 23) rfl rfl (by kernel_rfl) (by kernel_rfl) (by kernel_rfl) (by kernel_rfl) (by kernel_rfl) (fun _ _ _ h => h) (Or.inl ⟨by rfl, ?_⟩) hS ?_
        rotate_left
        · (intro w hSw; (try dsimp only at hSw); go_simp; all_goals with_reducible rfl)
        simp only [Act.put]
        refine wpAnyE_tk (i := 7) (v := ?_) #[true, true, true, true, true, true, true, true, true, true, true, false, false, false, false, false] (some 24) rfl rfl (by kernel_rfl) (by kernel_rfl) (by kernel_rfl) (by kernel_rfl) (by kernel_rfl) (fun _ _ _ h => h) (Or.inl ⟨by rfl, ?_⟩) hS ?_
        rotate_left
        · (intro w hSw; (try dsimp only at hSw); go_simp; all_goals with_reducible rfl)
        simp only [Act.put]
        refine wpAnyE_tk (i := 11) (v := ?_) #[true, true, true, true, true, true, true, true, true, true, true, true, false, false, false, false] (some 28) rfl rfl (by kernel_rfl) (by kernel_rfl) (by kernel_rfl) (by kernel_rfl) (by kernel_rfl) (fun _ _ _ h => h) (Or.inl ⟨by rfl, ?_⟩) hS ?_
        rotate_left
        · (intro w hSw; (try dsimp only at hSw); go_simp; all_goals with_reducible rfl)
        simp only [Act.put]
        refine wpAnyE_ready (rs := [12]) (by kernel_rfl) (by simp) ?_
        refine AllE.cons' (o := _) #[true, true, true, true, true, true, true, true, true, true, true, true, true, false, false, false] rfl (by kernel_rfl) (fun K hK => ?_) AllE.nil
        go_simp
        have hE9 := HE7.out.below (bw_new (Below.refl _ _) (.cells #[.string (⟨#[119]⟩ ++ sd), .int .i64 0, .string ⟨#[102, 108, 117, 116, 101]⟩, .int .i64 x, .int .i64 1, .int .i64 36, .int .i64 96] 51))
        refine hK.out _ _ (fun _ => ⟨hE9.2.2.1.two.1, by rw [World.cell?_alloc_lt _ _ _ hlt7]; exact hS.2⟩) ?_
        have hlt9 : W5.heap.size < (W7.alloc (.cells #[.string (⟨#[119]⟩ ++ sd), .int .i64 0, .string ⟨#[102, 108, 117, 116, 101]⟩, .int .i64 x, .int .i64 1, .int .i64 36, .int .i64 96] 51)).heap.size := by simp; omega
        replace hS := And.intro hE9.2.2.1.two.1 ((World.cell?_alloc_lt W7 (.cells #[.string (⟨#[119]⟩ ++ sd), .int .i64 0, .string ⟨#[102, 108, 117, 116, 101]⟩, .int .i64 x, .int .i64 1, .int .i64 36, .int .i64 96] 51) ⟨W5.heap.size, 0, none⟩ hlt7).trans hS.2)
        have HE9 := Lib.hid hE9
        clear hK K hE9
        try simp only [Act.put]
        refine wpAnyE_ready (rs := [13]) (by kernel_rfl) (by simp) ?_
        refine AllE.cons' (o := _) #[true, true, true, true, true, true, true, true, true, true, true, true, true, true, false, false] rfl (by kernel_rfl) (fun K hK => ?_) AllE.nil
        refine step_append_lies _ (by rfl) _ _ _ (by rfl) (w.heap.size + 2) 51 i0 (.agg #[.string ⟨#[]⟩, .int .i64 0, .string ⟨#[]⟩, .int .i64 0, .int .i64 0, .int .i64 0, .int .i64 0]) 7 72 Tryz.underlying27 HHI.out HZ0.out HZ1.out HZ2.out rfl (by decide) (.slice A k cap) k (wsCells (exWs 0 (L.take k))) (by rfl) HE9.out.1
          ⟨W7.heap.size, 0, none⟩ 1 1 [.string (⟨#[119]⟩ ++ sd), .int .i64 0, .string ⟨#[102, 108, 117, 116, 101]⟩, .int .i64 x, .int .i64 1, .int .i64 36, .int .i64 96] (by rfl) (by rfl) (World.news_of_block (cs := #[.string (⟨#[119]⟩ ++ sd), .int .i64 0, .string ⟨#[102, 108, 117, 116, 101]⟩, .int .i64 x, .int .i64 1, .int .i64 36, .int .i64 96]) (t := 51) (fr := (0, 0)) (heap_alloc_new W7 _)) (by simp [Value.oneCell'])
          (by omega) (by unfold maxLen; omega) (by omega) (Nat.le_trans (Nat.le_trans hs hl5) (Nat.le_of_lt hlt9)) (W7.heap.size + 1) (by simp) ?_
        intro g cap2 W10 hown hgrow hat hlt
        have hne1 : some (w.heap.size + 1) ≠ (Value.slice A k cap).ownBlock := fun e => by have := (HE9.out.1.lt _ e.symm).1; omega
        have hne0 : some w.heap.size ≠ (Value.slice A k cap).ownBlock := fun e => by have := (HE9.out.1.lt _ e.symm).1; omega
        have hne2 : some W5.heap.size ≠ (Value.slice A k cap).ownBlock := fun e => by have := (HRL.out.1.lt _ e.symm).2; omega
        have hB0 := HE9.out.2.1.grown hgrow hne0
        have hB1 := HE9.out.2.2.1.grown hgrow hne1
        have hbg : Below w.heap.size _ W10 := (Below.refl w.heap.size _).grown hgrow (Nat.le_trans (by omega) HE9.out.2.2.2.2.2) (fun r e => by have := (HE9.out.1.lt _ e).1; omega)
        have hsg : w.heap.size + 2 ≤ W10.heap.size := Nat.le_trans HE9.out.2.2.2.2.2 hgrow.size
        have hRd := HE9.out.2.2.2.1.below hbg
        have hBw := HE9.out.2.2.2.2.1.trans hbg
        have hgb : w.heap.size + 2 ≤ g := by
          rcases hat with h | h
          · exact (HE9.out.1.lt _ h).1
          · rw [h]; omega
        have hnx : L[k] = x := HX.out.symm
        have hown' : W10.ownsRow (w.heap.size + 2) 51 7 (.slice (some ⟨g, 0, none⟩) (k + 1) cap2) (k + 1) (wsCells (exWs 0 (L.take (k + 1)))) := by
          rw [exWs_snoc L k hltL, wsCells_snoc, hnx]
          have e : (exW k x).cells = [.string (⟨#[119]⟩ ++ sd), .int .i64 0, .string ⟨#[102, 108, 117, 116, 101]⟩, .int .i64 x, .int .i64 1, .int .i64 36, .int .i64 96] := by rw [HSD.out]; rfl
          rw [e]; exact hown
        obtain ⟨q0, q1⟩ := hB1.two
        have q2 := hB1.frozen 0
        have HC := Lib.hid (And.intro hown' (And.intro hB0 (And.intro hB1 (And.intro hRd (And.intro hBw (And.intro hsg hgb))))))
        refine hK.out _ _ (fun _ => ⟨q0, (World.cell?_of_block (hgrow.block _ hlt9 hne2)).trans hS.2⟩) ?_
        replace hS := And.intro q0 ((World.cell?_of_block (hgrow.block _ hlt9 hne2)).trans hS.2)
        clear hK K hown hown' hB0 hB1 hRd hBw hsg hgb hbg hat hnx
        try simp only [Act.put]
        refine wpAnyE_tk (i := 14) (v := ?_) #[true, true, true, true, true, true, true, true, true, true, true, true, true, true, true, false] (some 31) rfl rfl (by kernel_rfl) (by kernel_rfl) (by kernel_rfl) (by kernel_rfl) (by kernel_rfl) (fun _ _ _ h => h) (Or.inl ⟨by rfl, ?_⟩) hS ?_
        rotate_left
        · (intro w hSw; (try dsimp only at hSw); go_simp; all_goals with_reducible rfl)
        simp only [Act.put]
        refine wpAnyE_ready (rs := [15]) (by kernel_rfl) (by simp) ?_
        refine AllE.cons' (o := _) #[true, true, true, true, true, true, true, true, true, true, true, true, true, true, true, true] rfl (by kernel_rfl) (fun K hK => ?_) AllE.nil
        go_simp
        refine hK.out _ _ (fun h => absurd rfl h) ?_
        clear hK K hS
        try simp only [Act.put]
        refine wpAnyE_done (by kernel_rfl) ?_ _
        clear q0 q1 q2 hw1 hw2 hconv hsz
        obtain ⟨c1, c2, c3, c4, c5, c6, c7⟩ := HC.out
        have HF : Hid (ExRel w (.slice RB rm rc) (.slice (some ⟨g, 0, none⟩) (k + 1) cap2) (k + 1) L (some ⟨lb, lo, none⟩) (W10.setCell ⟨w.heap.size + 1, 0, none⟩ (.slice (some ⟨g, 0, none⟩) (k + 1) cap2))) :=
          Lib.hid ⟨own_far c1 (fun q hq => by have := (c1.lt q hq).1; show q ≠ w.heap.size + 1; omega) _, c2.far (by show w.heap.size ≠ w.heap.size + 1; omega) _, c3.put 0 _, c4.below (bw_set (Below.refl _ _) (by omega) _), bw_set c5 (by omega) _, by simpa using c6⟩
        clear c1 c2 c3 c4 c5 c6 c7
        go_wp2
        go_roundw
        case rel => exact ⟨k + 1, _, _, by omega, by go_num, HF.out⟩
        case measure => simp [intOf]; omega
    · have hkn : k = n := by omega
      subst hkn
      have hrow := HRL.out.1
      rw [List.take_of_length_le (by rw [HL.out]; exact Nat.le_refl _)] at hrow
      have hcap := own_cap hrow
      have hmx : cap ≤ maxLen := by
        rcases hrow.2 with ⟨hv, _⟩ | ⟨g', c', cur, hv, _, _, _, hm, _⟩
        · injection hv with _ _ h3; subst h3; unfold maxLen; omega
        · injection hv with _ _ h3; subst h3; exact hm
      have hfar : ∀ q, (Value.slice A k cap).ownBlock = some q → q ≠ w.heap.size := fun q hq => by have := (hrow.lt q hq).1; omega
      have HRW := Lib.hid (WRd.of_own (own_far (own_far hrow (p := ⟨w.heap.size, 0, none⟩) hfar (.slice A k cap)) (p := ⟨w.heap.size, 1, none⟩) hfar (.slice RB rm rc)) (by rw [exWs_length]; exact HL.out.symm))
      have HCM := Lib.hid (And.intro hcap hmx)
      obtain ⟨p0, p1⟩ := HRL.out.2.2.1.two
      obtain ⟨q0, q1⟩ := HRL.out.2.1.two
      have f0 := HRL.out.2.1.frozen 0
      have f1 := HRL.out.2.1.frozen 1
      clear hrow hcap hmx hfar
      go_wp2
      refine bodyPost_ret (v := .agg #[.slice A k cap, .slice RB rm rc]) (by simp [results, Tryz.results26, go_sem, q0, q1]) rfl ⟨A, cap, rfl, HCM.out.1, HCM.out.2, ?_, ?_⟩
      · exact HRW.out
      · exact bw_set (bw_set HRL.out.2.2.2.2.1 (Nat.le_refl _) _) (Nat.le_refl _) _
end Go.Proofs.YtkamepalomkpbaaGreatDoor
