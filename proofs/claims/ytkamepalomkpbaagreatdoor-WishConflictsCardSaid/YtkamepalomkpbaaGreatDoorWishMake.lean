/- Package bombardelaw37: Pitches and Make. Conditions: none. Made problems are right; the plain law of WishParts; a part of a group. No function is walked here. Conditions: those that each lemma names. -/
import Derived.Test.YtkamepalomkpbaaGreatDoorWishKnown
import Derived.Test.YtkamepalomkpbaaGreatDoorRef05
namespace Go.Proofs.YtkamepalomkpbaaGreatDoor
section
open Go.RowKit

/-- The pitches of wishes. -/
def pits : List (Nat × Nat) := [(8, 1), (4, 1), (16, 1), (2, 1), (8, 3), (8, 5)]
def pitN (k : Nat) : Nat := (pits[k]?.getD (0, 0)).1
def pitD (k : Nat) : Nat := (pits[k]?.getD (0, 0)).2
def frC : List (Nat × Nat) → List Value
  | [] => []
  | p :: L => .int .i64 p.1 :: .int .i64 p.2 :: frC L
theorem pit_get : ∀ k, k < 6 → (frC pits)[k * 2]? = some (.int .i64 (pitN k)) ∧ (frC pits)[k * 2 + 1]? = some (.int .i64 (pitD k)) := by
  intro k hk
  match k, hk with
  | 0, _ => exact ⟨rfl, rfl⟩
  | 1, _ => exact ⟨rfl, rfl⟩
  | 2, _ => exact ⟨rfl, rfl⟩
  | 3, _ => exact ⟨rfl, rfl⟩
  | 4, _ => exact ⟨rfl, rfl⟩
  | 5, _ => exact ⟨rfl, rfl⟩
theorem low_ct (n d a b : Nat) (w : World) (hd : 0 < d) (hn1 : n ≤ 1000000) (hd1 : d ≤ 1000000) (ha : lowN n d = a) (hb : lowD n d = b) :
    Calls Tryz.prog 18 #[.int .i64 n, .int .i64 d] w fun e w' => e = .returned (.agg #[.int .i64 a, .int .i64 b]) ∧ Below w.heap.size w w' := by
  have := lowest_any n d w (by omega) (by omega) (by omega) (by omega)
  rwa [ha, hb] at this

set_option maxRecDepth 100000 in
set_option maxHeartbeats 1000000 in
theorem pitches_any (w : World) :
    Calls Tryz.prog 27 #[] w fun e w' => ∃ g, e = .returned (.slice (some ⟨g, 0, none⟩) 6 6) ∧ w.heap.size ≤ g ∧ Blk w' g 47 (frC pits) ∧ Below w.heap.size w w' := by
  have l1 := Lib.hid (fun W => low_ct 8 3 8 3 W (by decide) (by decide) (by decide) (by decide) (by decide))
  have l2 := Lib.hid (fun W => low_ct 8 5 8 5 W (by decide) (by decide) (by decide) (by decide) (by decide))
  go_enter Tryz.func27, Tryz.ntmps27
  go_wp2_with fail
  refine (feet_any _ _).mono ?_
  rintro e w1 ⟨rfl, hb⟩
  go_wp2_with fail
  refine (feet_any _ _).mono ?_
  rintro e w2 ⟨rfl, hk⟩
  replace hb := hb.trans (hk.mono hb.size)
  clear hk
  go_wp2_with fail
  refine (feet_any _ _).mono ?_
  rintro e w3 ⟨rfl, hk⟩
  replace hb := hb.trans (hk.mono hb.size)
  clear hk
  go_wp2_with fail
  refine (feet_any _ _).mono ?_
  rintro e w4 ⟨rfl, hk⟩
  replace hb := hb.trans (hk.mono hb.size)
  clear hk
  go_wp2_with fail
  refine (l1.out _).mono ?_
  rintro e w5 ⟨rfl, hk⟩
  replace hb := hb.trans (hk.mono hb.size)
  clear hk
  go_wp2_with fail
  refine (l2.out _).mono ?_
  rintro e w6 ⟨rfl, hk⟩
  replace hb := hb.trans (hk.mono hb.size)
  clear hk
  go_wp2
  go_ret
  exact ⟨w6.heap.size, rfl, hb.size, Blk.new (cs := frC pits), bw_new hb _⟩

/-- A want; the wish that it makes; the rules of some bits. -/
structure Wnt where
  dv : Nat
  tn : Nat
  ft : Nat
  lo : Nat
  ks : Nat
def reed : ByteArray := ⟨#[114, 101, 101, 100]⟩
def toneOf (r : Nat) : ByteArray := if r = 0 then flute else reed
def mkW (i : Nat) (x : Wnt) : Wsh := ⟨wName i, (x.dv % 2 : Nat), toneOf (x.tn % 2), (pitN (x.ft % 6) : Nat), (pitD (x.ft % 6) : Nat), 36 + (x.lo % 24 : Nat), 36 + (x.lo % 24 : Nat) + (x.ks % 16 : Nat)⟩
def mkWs : Nat → List Wnt → List Wsh
  | _, [] => []
  | i, x :: r => mkW i x :: mkWs (i + 1) r
theorem mkWs_append (i : Nat) (l m : List Wnt) : mkWs i (l ++ m) = mkWs i l ++ mkWs (i + l.length) m := by
  induction l generalizing i with
  | nil => simp [mkWs]
  | cons x r ih => simp [mkWs, ih]; congr 1; omega
theorem mkWs_snoc (l : List Wnt) (k : Nat) (h : k < l.length) : mkWs 0 (l.take (k + 1)) = mkWs 0 (l.take k) ++ [mkW k l[k]] := by
  rw [take_snoc l k h, mkWs_append, List.length_take]
  rw [show 0 + min k l.length = k by omega]
  rfl
theorem mkWs_length (i : Nat) (l : List Wnt) : (mkWs i l).length = l.length := by
  induction l generalizing i with
  | nil => rfl
  | cons x r ih => simp [mkWs, ih]
/-- A want's cells at an address; a slice of wants. -/
def NAt (w : World) (b o : Nat) (x : Wnt) : Prop :=
  w.cell? ⟨b, o, none⟩ = some (.int .u8 x.dv) ∧ w.cell? ⟨b, o + 1, none⟩ = some (.int .u8 x.tn) ∧ w.cell? ⟨b, o + 2, none⟩ = some (.int .u8 x.ft) ∧ w.cell? ⟨b, o + 3, none⟩ = some (.int .u8 x.lo) ∧ w.cell? ⟨b, o + 4, none⟩ = some (.int .u8 x.ks)
def NRd (w : World) (Bd : Nat) (A : Option Addr) (l : List Wnt) : Prop :=
  0 < l.length → ∃ b off, A = some ⟨b, off, none⟩ ∧ b < Bd ∧ ∀ i (h : i < l.length), NAt w b (off + i * 5) l[i] ∧ l[i].dv ≤ 255 ∧ l[i].tn ≤ 255 ∧ l[i].ft ≤ 255 ∧ l[i].lo ≤ 255 ∧ l[i].ks ≤ 255
theorem NRd.below {w w' : World} {Bd : Nat} {A : Option Addr} {l : List Wnt} (h : NRd w Bd A l) (hb : Below Bd w w') : NRd w' Bd A l := fun hl => by
  obtain ⟨b, off, rfl, hbb, hc⟩ := h hl
  refine ⟨b, off, rfl, hbb, fun i hi => ?_⟩
  obtain ⟨⟨h0, h1, h2, h3, h4⟩, hr⟩ := hc i hi
  have hk : ∀ o, w'.cell? ⟨b, o, none⟩ = w.cell? ⟨b, o, none⟩ := fun o => hb.cell (p := ⟨b, o, none⟩) hbb
  exact ⟨⟨(hk _).trans h0, (hk _).trans h1, (hk _).trans h2, (hk _).trans h3, (hk _).trans h4⟩, hr⟩

/-- What the loop of Make over the wants carries. -/
def MkRel (w : World) (XA : Option Addr) (xn xc : Nat) (bits : Nat) (A : Option Addr) (k cap : Nat) (L : List Wnt) (wr : World) : Prop :=
  wr.ownsRow (w.heap.size + 3) 51 7 (.slice A k cap) k (wsCells (mkWs 0 (L.take k))) ∧ Blk wr w.heap.size 24 [.slice XA xn xc, .int .u8 bits] ∧ Blk wr (w.heap.size + 1) 29 [.slice none 0 0, .slice none 0 0] ∧
    Blk wr (w.heap.size + 1 + 1) 29 [.slice A k cap, .slice none 0 0] ∧ NRd wr w.heap.size XA L ∧ Below w.heap.size w wr ∧ w.heap.size + 3 ≤ wr.heap.size
theorem MkRel.below {w wr w' : World} {XA : Option Addr} {xn xc bits : Nat} {A : Option Addr} {k cap : Nat} {L : List Wnt} (h : MkRel w XA xn xc bits A k cap L wr) (hb : Below wr.heap.size wr w') : MkRel w XA xn xc bits A k cap L w' := by
  obtain ⟨h1, h2, h3, h4, h5, h6, h7⟩ := h
  exact ⟨own_below h1 hb, h2.keep hb, h3.keep hb, h4.keep hb, h5.below (hb.mono (by omega)), h6.trans (hb.mono h6.size), by have := hb.size; omega⟩

/-- The rules of some bits. -/
def rl : List Int := [0, 7, 12, 24, 28]
def bitB (n : Nat) (j : Nat) : Bool := Go.bits .and .u8 ((n : Int) / 2 ^ j) 1 == 1
def ruP (n : Nat) : Nat → List Int
  | 0 => []
  | j + 1 => ruP n j ++ if bitB n j then [rl[j]?.getD 0] else []
theorem infoInt : (Tryz.prog.info? 3).map (fun i => (i.zero, i.size, i.bytes)) = some (some (.int .i64 0), 1, 8) := by kernel_rfl
/-- Rows of one's own of different types do not share a block. -/
theorem own_apart {w : World} {b1 b2 : Nat} {e1 e2 : TypeId} {s1 s2 n1 n2 : Nat} {v1 v2 : Value} {x1 x2 : List Value} (h1 : w.ownsRow b1 e1 s1 v1 n1 x1) (h2 : w.ownsRow b2 e2 s2 v2 n2 x2) (hne : e1 ≠ e2) : v1.ownBlock = none ∨ v1.ownBlock ≠ v2.ownBlock := by
  rcases h1.2 with ⟨rfl, _⟩ | ⟨g, cap, cur, rfl, _, hg, _⟩
  · exact .inl rfl
  · right
    rcases h2.2 with ⟨rfl, _⟩ | ⟨g2, cap2, cur2, rfl, _, hg2, _⟩
    · intro e; cases e
    · intro e
      have : g = g2 := by simpa [Value.ownBlock] using e
      subst this
      rw [hg] at hg2
      injection hg2 with h
      injection h with _ h
      exact hne h
theorem mkWs_ok (L : List Wnt) : ∀ i, ∀ x ∈ mkWs i L, I64 x.fn ∧ I64 x.fd ∧ x.nm.size ≤ 1000000000 ∧ x.tn.size ≤ 1000000000 := by
  induction L with
  | nil => intro i x hx; cases hx
  | cons n r ih =>
    intro i x hx
    rcases List.mem_cons.1 hx with rfl | hx
    · have hp : ∀ k, k < 6 → pitN k ≤ 16 ∧ pitD k ≤ 5 := by decide
      have h6 := hp (n.ft % 6) (Nat.mod_lt _ (by decide))
      refine ⟨⟨?_, ?_⟩, ⟨?_, ?_⟩, ?_, ?_⟩
      · show -9223372036854775808 ≤ ((pitN (n.ft % 6) : Nat) : Int); omega
      · show ((pitN (n.ft % 6) : Nat) : Int) ≤ 9223372036854775807; omega
      · show -9223372036854775808 ≤ ((pitD (n.ft % 6) : Nat) : Int); omega
      · show ((pitD (n.ft % 6) : Nat) : Int) ≤ 9223372036854775807; omega
      · show (wName i).size ≤ 1000000000; unfold wName; rw [ByteArray.size_append]; exact (by decide : 1 + 1 ≤ 1000000000)
      · show (toneOf (n.tn % 2)).size ≤ 1000000000; unfold toneOf; split <;> decide
    · exact ih (i + 1) x hx
/-- What the loop of Make over the rules carries. -/
def RuRel (w : World) (XA : Option Addr) (xn xc : Nat) (bits : Nat) (A : Option Addr) (k cap : Nat) (gR : Nat) (ws : List Wsh) (RA : Option Addr) (rn rc : Nat) (j : Nat) (wx : World) : Prop :=
  wx.ownsRow (gR + 1) 3 1 (.slice RA rn rc) rn ((ruP bits j).map i64v) ∧ wx.ownsRow (w.heap.size + 3) 51 7 (.slice A k cap) k (wsCells ws) ∧
    (Blk wx w.heap.size 24 [.slice XA xn xc, .int .u8 bits] ∧ Blk wx (w.heap.size + 1) 29 [.slice none 0 0, .slice none 0 0]) ∧
    Blk wx (w.heap.size + 1 + 1) 29 [.slice A k cap, .slice RA rn rc] ∧ Blk wx gR 3 (rl.map i64v) ∧ Below w.heap.size w wx ∧ gR + 1 ≤ wx.heap.size ∧ w.heap.size + 3 ≤ gR
theorem ru_step {w wx w3 : World} {XA : Option Addr} {xn xc bits : Nat} {A : Option Addr} {k cap gR : Nat} {ws : List Wsh} {RA : Option Addr} {rn rc j g rc2 : Nat} {x : Value} {o : Obj} (h : RuRel w XA xn xc bits A k cap gR ws RA rn rc j wx)
    (hgrow : (wx.alloc o).grownBy w3 (Value.slice RA rn rc).ownBlock) (hown : w3.ownsRow (gR + 1) 3 1 (.slice (some ⟨g, 0, none⟩) (rn + 1) rc2) (rn + 1) ((ruP bits j).map i64v ++ [x])) (hb : bitB bits j = true) (hx : x = i64v (rl[j]?.getD 0)) :
    (w3.cell? ⟨w.heap.size + 1 + 1, 1, none⟩ = some (.slice RA rn rc) ∧ w3.frozen? ⟨w.heap.size + 1 + 1, 1, none⟩ = false) ∧
    RuRel w XA xn xc bits A k cap gR ws (some ⟨g, 0, none⟩) (rn + 1) rc2 (j + 1) (w3.setCell ⟨w.heap.size + 1 + 1, 1, none⟩ (.slice (some ⟨g, 0, none⟩) (rn + 1) rc2)) := by
  obtain ⟨h1, h2, ⟨h3, h4⟩, h5, h6, h7, h8, h9⟩ := h
  have hne : ∀ b, b < gR + 1 → some b ≠ (Value.slice RA rn rc).ownBlock := fun b hb e => by have := (h1.lt _ e.symm).1; omega
  have hbg : Below w.heap.size (wx.alloc o) w3 := (Below.refl w.heap.size _).grown hgrow (by simp; omega) (fun r e => by have := (h1.lt _ e).1; omega)
  have k1 := (h2.alloc o).kept hgrow (own_apart h2 h1 (by decide))
  have k3 := (h3.alloc o).grown hgrow (hne _ (by omega))
  have k4 := (h4.alloc o).grown hgrow (hne _ (by omega))
  have k5 := (h5.alloc o).grown hgrow (hne _ (by omega))
  have k6 := (h6.alloc o).grown hgrow (hne _ (by omega))
  have hsz := hgrow.size
  rw [World.size_alloc] at hsz
  have hgo : (Value.slice (some ⟨g, 0, none⟩) (rn + 1) rc2).ownBlock = some g := rfl
  have hgb := (hown.lt g hgo).1
  refine ⟨⟨k5.two.2, k5.frozen 1⟩, own_far (p := ⟨w.heap.size + 1 + 1, 1, none⟩) ?_ (fun q hq => by have := (hown.lt q hq).1; show q ≠ w.heap.size + 1 + 1; omega) _, own_far k1 (fun q hq => by have := (k1.lt q hq).1; show q ≠ w.heap.size + 1 + 1; omega) _,
    ⟨k3.far (by show w.heap.size ≠ w.heap.size + 1 + 1; omega) _, k4.far (by show w.heap.size + 1 ≠ w.heap.size + 1 + 1; omega) _⟩, k5.put 1 _, k6.far (by show gR ≠ w.heap.size + 1 + 1; omega) _, bw_set ((bw_drewN (Below.refl _ _) 0).trans ((h7.alloc (by have := h7.size; exact this) o).trans hbg)) (by omega) _, by simp; omega, h9⟩
  have e : ruP bits (j + 1) = ruP bits j ++ [rl[j]?.getD 0] := by show ruP bits j ++ (if bitB bits j then [rl[j]?.getD 0] else []) = _; rw [hb]; rfl
  rw [e, List.map_append, List.map_cons, List.map_nil, ← hx]
  exact hown
theorem ruP_no {bits j : Nat} (h : bitB bits j = false) : ruP bits (j + 1) = ruP bits j := by
  show ruP bits j ++ (if bitB bits j then [rl[j]?.getD 0] else []) = _
  rw [h]; simp
theorem ruP_len (bits j : Nat) : (ruP bits j).length ≤ j := by
  induction j with
  | zero => simp [ruP]
  | succ j ih =>
    show (ruP bits j ++ (if bitB bits j then [rl[j]?.getD 0] else [])).length ≤ j + 1
    rw [List.length_append]
    split <;> simp <;> omega

theorem Pb.of_owns {w : World} {b1 b2 : Nat} {A B : Option Addr} {n cap m c2 : Nat} {ws : List Wsh} {rules : List Int} (h1 : w.ownsRow b1 51 7 (.slice A n cap) n (wsCells ws)) (h2 : w.ownsRow b2 3 1 (.slice B m c2) m (rules.map i64v))
    (hn : ws.length = n) (hm : m = rules.length) (hok : ∀ x ∈ ws, I64 x.fn ∧ I64 x.fd ∧ x.nm.size ≤ 1000000000 ∧ x.tn.size ≤ 1000000000) : Pb w w.heap.size A n cap B m c2 ws rules where
  wl := hn
  rl := hm.symm
  wr := WRd.of_own h1 hn.symm
  rr := Rd.of_own h2 hm
  wc := own_cap h1
  rc := own_cap h2
  wm := by
    rcases h1.2 with ⟨hv, _⟩ | ⟨g', c', cur, hv, _, _, _, hm, _⟩
    · injection hv with _ _ h3; subst h3; unfold maxLen; omega
    · injection hv with _ _ h3; subst h3; exact hm
  rm := by
    rcases h2.2 with ⟨hv, _⟩ | ⟨g', c', cur, hv, _, _, _, hm, _⟩
    · injection hv with _ _ h3; subst h3; unfold maxLen; omega
    · injection hv with _ _ h3; subst h3; exact hm
  ok := hok

/-- Behind the append: all but the store. -/
def MkMid (w : World) (XA : Option Addr) (xn xc : Nat) (bits : Nat) (A : Option Addr) (k cap : Nat) (g cap2 : Nat) (L : List Wnt) (wr : World) : Prop :=
  wr.ownsRow (w.heap.size + 3) 51 7 (.slice (some ⟨g, 0, none⟩) (k + 1) cap2) (k + 1) (wsCells (mkWs 0 (L.take (k + 1)))) ∧ (Blk wr w.heap.size 24 [.slice XA xn xc, .int .u8 bits] ∧ Blk wr (w.heap.size + 1) 29 [.slice none 0 0, .slice none 0 0]) ∧
    Blk wr (w.heap.size + 1 + 1) 29 [.slice A k cap, .slice none 0 0] ∧ NRd wr w.heap.size XA L ∧ Below w.heap.size w wr ∧ w.heap.size + 3 ≤ wr.heap.size ∧ w.heap.size + 3 ≤ g
theorem mk_grown {w W9 W10 : World} {XA : Option Addr} {xn xc bits : Nat} {A : Option Addr} {k cap g cap2 : Nat} {L : List Wnt} {x : Wsh} {cs : List Value} {H : Nat} (h : MkRel w XA xn xc bits A k cap L W9)
    (hown : W10.ownsRow (w.heap.size + 3) 51 7 (.slice (some ⟨g, 0, none⟩) (k + 1) cap2) (k + 1) (wsCells (mkWs 0 (L.take k)) ++ cs)) (hgrow : W9.grownBy W10 (Value.slice A k cap).ownBlock) (hat : (Value.slice A k cap).ownBlock = some g ∨ g = H) (hH : W9.heap.size = H)
    (hc : x.cells = cs) (ht : mkWs 0 (L.take (k + 1)) = mkWs 0 (L.take k) ++ [x]) : MkMid w XA xn xc bits A k cap g cap2 L W10 := by
  obtain ⟨h1, h2, h3, h4, h5, h6, h7⟩ := h
  have hne : ∀ b, b < w.heap.size + 3 → some b ≠ (Value.slice A k cap).ownBlock := fun b hb e => by have := (h1.lt _ e.symm).1; omega
  have hbg : Below w.heap.size W9 W10 := (Below.refl w.heap.size _).grown hgrow (by omega) (fun r e => by have := (h1.lt _ e).1; omega)
  refine ⟨?_, ⟨h2.grown hgrow (hne _ (by omega)), h3.grown hgrow (hne _ (by omega))⟩, h4.grown hgrow (hne _ (by omega)), h5.below hbg, h6.trans hbg, Nat.le_trans h7 hgrow.size, ?_⟩
  · rw [ht, wsCells_snoc, hc]; exact hown
  · rcases hat with h | h
    · exact (h1.lt _ h).1
    · omega
theorem mk_stored {w W10 : World} {XA : Option Addr} {xn xc bits : Nat} {A : Option Addr} {k cap g cap2 : Nat} {L : List Wnt} (h : MkMid w XA xn xc bits A k cap g cap2 L W10) :
    MkRel w XA xn xc bits (some ⟨g, 0, none⟩) (k + 1) cap2 L (W10.setCell ⟨w.heap.size + 1 + 1, 0, none⟩ (.slice (some ⟨g, 0, none⟩) (k + 1) cap2)) := by
  obtain ⟨c1, ⟨c2, c3⟩, c4, c5, c6, c7, c8⟩ := h
  exact ⟨own_far c1 (fun q hq => by have := (c1.lt q hq).1; show q ≠ w.heap.size + 1 + 1; omega) _, c2.far (by show w.heap.size ≠ w.heap.size + 1 + 1; omega) _, c3.far (by show w.heap.size + 1 ≠ w.heap.size + 1 + 1; omega) _, c4.put 0 _, c5.below (bw_set (Below.refl _ _) (by omega) _), bw_set c6 (by omega) _, by simpa using c7⟩

set_option maxRecDepth 100000 in
set_option maxHeartbeats 16000000 in
theorem make_own (XA : Option Addr) (xn xc bits : Nat) (L : List Wnt) (w : World) (hL : L.length = xn) (hxc : xn ≤ xc) (hxm : xc ≤ maxLen) (hr : NRd w w.heap.size XA L) (_ : bits ≤ 255) :
    Calls Tryz.prog 8 #[.agg #[.slice XA xn xc, .int .u8 bits]] w fun e w' => ∃ A n cap RA rn rc, e = .returned (.agg #[.slice A n cap, .slice RA rn rc]) ∧ n = min xn 5 ∧ Pb w' w'.heap.size A n cap RA rn rc (mkWs 0 (L.take n)) (ruP bits 5) ∧ Below w.heap.size w w' ∧ w'.ownsRow (w.heap.size + 3) 51 7 (.slice A n cap) n (wsCells (mkWs 0 (L.take n))) ∧ ∃ gR, w.heap.size ≤ gR ∧ w'.ownsRow (gR + 1) 3 1 (.slice RA rn rc) rn ((ruP bits 5).map i64v) := by
  obtain ⟨i0, hi, hz0, hz1, hz2⟩ := info_parts infoWish
  have HHI := Lib.hid hi
  have HZ0 := Lib.hid hz0
  have HZ1 := Lib.hid hz1
  have HZ2 := Lib.hid hz2
  have HL := Lib.hid hL
  have HR := Lib.hid hr
  have hxm' := hxm
  unfold maxLen at hxm'
  obtain ⟨m, hm⟩ : ∃ m, m = min xn 5 := ⟨_, rfl⟩
  have hmx : m ≤ xn := by omega
  have hm5 : m ≤ 5 := by omega
  have HM := Lib.hid hm
  have hmi : min (xn : Int) 5 = (m : Int) := by omega
  have hrel : MkRel w XA xn xc bits none 0 0 L (((w.alloc (.cells #[.slice XA xn xc, .int .u8 bits] 24)).alloc (.cells #[.slice none 0 0, .slice none 0 0] 29)).alloc (.cells #[.slice none 0 0, .slice none 0 0] 29)) := by
    have hb0 := bw_new (bw_new (bw_new (Below.refl _ w) (.cells #[.slice XA xn xc, .int .u8 bits] 24)) (.cells #[.slice none 0 0, .slice none 0 0] 29)) (.cells #[.slice none 0 0, .slice none 0 0] 29)
    refine ⟨World.ownsRow_nil _ _ _ _, (Blk.new.alloc _).alloc _, ?_, ?_, hr.below hb0, hb0, by simp⟩
    · have := Blk.new (w := w.alloc (.cells #[.slice XA xn xc, .int .u8 bits] 24)) (t := 29) (cs := [.slice none 0 0, .slice none 0 0])
      rw [World.size_alloc] at this
      exact this.alloc _
    · have := Blk.new (w := (w.alloc (.cells #[.slice XA xn xc, .int .u8 bits] 24)).alloc (.cells #[.slice none 0 0, .slice none 0 0] 29)) (t := 29) (cs := [.slice none 0 0, .slice none 0 0])
      rw [World.size_alloc, World.size_alloc] at this
      exact this
  have HREL := Lib.hid hrel
  clear hi hz0 hz1 hz2 hL hr hm hrel
  go_enter Tryz.func8, Tryz.ntmps8
  go_wp2_with fail
  clear hmi
  go_loopw [17] (fun v wr => ∃ (k : Nat) (A : Option Addr) (cap : Nat), k ≤ m ∧ v = .int .i64 k ∧ MkRel w XA xn xc bits A k cap L wr) (fun v _ => m - (intOf v).toNat)
  case atStart => exact ⟨0, _, _, by omega, rfl, HREL.out⟩
  case round =>
    obtain ⟨k, A, cap, hk, rfl, hrel⟩ := hrel
    have HRL := Lib.hid hrel
    have hs : w.heap.size + 3 ≤ wr.heap.size := hrel.2.2.2.2.2.2
    clear hrel
    by_cases hlt : k < m
    · have hltL : k < L.length := by rw [HL.out]; omega
      obtain ⟨lb, lo, rfl, hlb, hlc⟩ := HRL.out.2.2.2.2.1 (by omega)
      obtain ⟨⟨a0, a1, a2, a3, a4⟩, r0, r1, r2, r3, r4⟩ := hlc k hltL
      obtain ⟨x, hx⟩ : ∃ x, x = L[k] := ⟨_, rfl⟩
      rw [← hx] at a0 a1 a2 a3 a4 r0 r1 r2 r3 r4
      have HX := Lib.hid hx
      clear hlc hx
      obtain ⟨dv, tn, ft, xl, ks⟩ := x
      dsimp only at a0 a1 a2 a3 a4 r0 r1 r2 r3 r4
      have hlw : lb < wr.heap.size := by omega
      go_wp2_with fail
      obtain ⟨q, hq⟩ : ∃ q : Nat, q = xl % 24 := ⟨_, rfl⟩
      have hq' : (xl : Int) % 24 = (q : Int) := by omega
      rw [hq']
      have hq24 : q < 24 := by omega
      have HQ := Lib.hid hq
      obtain ⟨W0, hW0⟩ : ∃ W0, W0 = wr.alloc (.cells #[.int .u8 dv, .int .u8 tn, .int .u8 ft, .int .u8 xl, .int .u8 ks] 69) := ⟨_, rfl⟩
      rw [← hW0]
      have hE0 := HRL.out.below (w' := W0) (by rw [hW0]; exact (bw_new (Below.refl _ _) _))
      have hB0 : Blk W0 wr.heap.size 69 [.int .u8 dv, .int .u8 tn, .int .u8 ft, .int .u8 xl, .int .u8 ks] := by rw [hW0]; exact Blk.new
      have hl0 : wr.heap.size + 1 ≤ W0.heap.size := by rw [hW0]; simp
      have HE0 := Lib.hid hE0
      have d0 : W0.cell? ⟨wr.heap.size, 0, none⟩ = some (.int .u8 dv) := hB0.cell 0
      have d1 : W0.cell? ⟨wr.heap.size, 1, none⟩ = some (.int .u8 tn) := hB0.cell 1
      have d2 : W0.cell? ⟨wr.heap.size, 2, none⟩ = some (.int .u8 ft) := hB0.cell 2
      have d4 : W0.cell? ⟨wr.heap.size, 4, none⟩ = some (.int .u8 ks) := hB0.cell 4
      clear hq' hq hW0 hE0 hB0 a0 a1 a2 a3 a4 hlw
      refine wp_regionE' 36 (fun w' => w'.cell? ⟨w.heap.size + 1 + 1, 0, none⟩ = some (.slice A k cap) ∧ w'.cell? ⟨wr.heap.size, 0, none⟩ = some (.int .u8 dv) ∧ w'.cell? ⟨wr.heap.size, 1, none⟩ = some (.int .u8 tn) ∧ w'.cell? ⟨wr.heap.size, 2, none⟩ = some (.int .u8 ft) ∧ w'.cell? ⟨wr.heap.size, 4, none⟩ = some (.int .u8 ks)) 37 #[false, false, false, false, false, false, false, false, false, false, false, false, false, false, false, false, false, false, false, false, false, false, false, false, false, false, false, false, false, false, false, false, false, false, false, false, false] (by kernel_rfl) (by kernel_rfl) (by kernel_rfl) ?_
      have hS := And.intro HE0.out.2.2.2.1.two.1 (And.intro d0 (And.intro d1 (And.intro d2 d4)))
      replace hS : W0.drew.cell? ⟨w.heap.size + 1 + 1, 0, none⟩ = some (.slice A k cap) ∧ W0.drew.cell? ⟨wr.heap.size, 0, none⟩ = some (.int .u8 dv) ∧ W0.drew.cell? ⟨wr.heap.size, 1, none⟩ = some (.int .u8 tn) ∧ W0.drew.cell? ⟨wr.heap.size, 2, none⟩ = some (.int .u8 ft) ∧ W0.drew.cell? ⟨wr.heap.size, 4, none⟩ = some (.int .u8 ks) := hS
      clear d0 d1 d2 d4
      have hk48 : (0 : Int) ≤ 48 + (k : Int) ∧ 48 + (k : Int) ≤ 57 := by omega
      obtain ⟨r0, hr0⟩ : ∃ r : Nat, r = dv % 2 := ⟨_, rfl⟩
      obtain ⟨e, he⟩ : ∃ r : Nat, r = tn % 2 := ⟨_, rfl⟩
      obtain ⟨f, hf⟩ : ∃ r : Nat, r = ft % 6 := ⟨_, rfl⟩
      obtain ⟨h, hh⟩ : ∃ r : Nat, r = ks % 16 := ⟨_, rfl⟩
      have he2 : e < 2 := by omega
      have hf6 : f < 6 := by omega
      have he2' : (e : Int) < 2 := by omega
      have hf6' : (f : Int) < 6 := by omega
      have he0' : (0 : Int) ≤ e := by omega
      have hf0' : (0 : Int) ≤ f := by omega
      have ht0 : (dv : Int).tmod 2 = (r0 : Int) := by rw [IntWalk.rem_in _ _ (by omega)]; omega
      have ht1 : (tn : Int).tmod 2 = (e : Int) := by rw [IntWalk.rem_in _ _ (by omega)]; omega
      have ht2 : (ft : Int).tmod 6 = (f : Int) := by rw [IntWalk.rem_in _ _ (by omega)]; omega
      have ht3 : (ks : Int).tmod 16 = (h : Int) := by rw [IntWalk.rem_in _ _ (by omega)]; omega
      have hv0 : IntKind.i64.wrap (r0 : Int) = (r0 : Int) := IntWalk.i64_in _ (by omega)
      have hv1 : IntKind.i64.wrap (h : Int) = (h : Int) := IntWalk.i64_in _ (by omega)
      have hv2 : IntKind.i64.wrap (36 + (q : Int) + (h : Int)) = 36 + (q : Int) + (h : Int) := IntWalk.i64_in _ (by omega)
      have hw1 : IntKind.i64.wrap (48 + (k : Int)) = 48 + (k : Int) := IntWalk.i64_in _ (by omega)
      have hw2 : IntKind.u8.wrap (48 + (k : Int)) = 48 + (k : Int) := IntWalk.u8_in _ ⟨hk48.1, Int.le_trans hk48.2 (by decide)⟩
      have HDEF := Lib.hid (And.intro hr0 (And.intro he (And.intro hf hh)))
      clear hr0 he hf hh
      refine wpAnyE_tk (i := 0) (v := ?_) #[true, false, false, false, false, false, false, false, false, false, false, false, false, false, false, false, false, false, false, false, false, false, false, false, false, false, false, false, false, false, false, false, false, false, false, false, false] (some 27) rfl rfl (by kernel_rfl) (by kernel_rfl) (by kernel_rfl) (by kernel_rfl) (by kernel_rfl) (fun _ _ _ h => h) (Or.inl ⟨by rfl, ?_⟩) hS ?_
      rotate_left
      · (intro w hSw; (try dsimp only at hSw); go_simp; all_goals with_reducible rfl)
      simp only [Act.put]
      refine wpAnyE_tk (i := 1) (v := ?_) #[true, true, false, false, false, false, false, false, false, false, false, false, false, false, false, false, false, false, false, false, false, false, false, false, false, false, false, false, false, false, false, false, false, false, false, false, false] (some 28) rfl rfl (by kernel_rfl) (by kernel_rfl) (by kernel_rfl) (by kernel_rfl) (by kernel_rfl) (fun _ _ _ h => h) (Or.inl ⟨by rfl, ?_⟩) hS ?_
      rotate_left
      · (intro w hSw; (try dsimp only at hSw); go_simp; all_goals with_reducible rfl)
      simp only [Act.put]
      refine wpAnyE_tk (i := 2) (v := ?_) #[true, true, true, false, false, false, false, false, false, false, false, false, false, false, false, false, false, false, false, false, false, false, false, false, false, false, false, false, false, false, false, false, false, false, false, false, false] (some 29) rfl rfl (by kernel_rfl) (by kernel_rfl) (by kernel_rfl) (by kernel_rfl) (by kernel_rfl) (fun _ _ _ h => h) (Or.inl ⟨by rfl, ?_⟩) hS ?_
      rotate_left
      · (intro w hSw; (try dsimp only at hSw); go_simp; all_goals with_reducible rfl)
      simp only [Act.put]
      refine wpAnyE_tk (i := 3) (v := ?_) #[true, true, true, true, false, false, false, false, false, false, false, false, false, false, false, false, false, false, false, false, false, false, false, false, false, false, false, false, false, false, false, false, false, false, false, false, false] (some 30) rfl rfl (by kernel_rfl) (by kernel_rfl) (by kernel_rfl) (by kernel_rfl) (by kernel_rfl) (fun _ _ _ h => h) (Or.inl ⟨by rfl, ?_⟩) hS ?_
      rotate_left
      · (intro w hSw; (try dsimp only at hSw); go_simp; all_goals with_reducible rfl)
      simp only [Act.put]
      refine wpAnyE_tk (i := 4) (v := ?_) #[true, true, true, true, true, false, false, false, false, false, false, false, false, false, false, false, false, false, false, false, false, false, false, false, false, false, false, false, false, false, false, false, false, false, false, false, false] (some 31) rfl rfl (by kernel_rfl) (by kernel_rfl) (by kernel_rfl) (by kernel_rfl) (by kernel_rfl) (fun _ _ _ h => h) (Or.inl ⟨by rfl, ?_⟩) hS ?_
      rotate_left
      · (intro w hSw; (try dsimp only at hSw); go_simp; all_goals with_reducible rfl)
      simp only [Act.put]
      refine wpAnyE_tk (i := 8) (v := ?_) #[true, true, true, true, true, false, false, false, true, false, false, false, false, false, false, false, false, false, false, false, false, false, false, false, false, false, false, false, false, false, false, false, false, false, false, false, false] (some 35) rfl rfl (by kernel_rfl) (by kernel_rfl) (by kernel_rfl) (by kernel_rfl) (by kernel_rfl) (fun _ _ _ h => h) (Or.inl ⟨by rfl, ?_⟩) hS ?_
      rotate_left
      · (intro w hSw; (try dsimp only at hSw); go_simp; all_goals with_reducible rfl)
      simp only [Act.put]
      refine wpAnyE_tk (i := 9) (v := ?_) #[true, true, true, true, true, false, false, false, true, true, false, false, false, false, false, false, false, false, false, false, false, false, false, false, false, false, false, false, false, false, false, false, false, false, false, false, false] (some 36) rfl rfl (by kernel_rfl) (by kernel_rfl) (by kernel_rfl) (by kernel_rfl) (by kernel_rfl) (fun _ _ _ h => h) (Or.inl ⟨by rfl, ?_⟩) hS ?_
      rotate_left
      · (intro w hSw; (try dsimp only at hSw); go_simp; all_goals with_reducible rfl)
      simp only [Act.put]
      refine wpAnyE_tk (i := 10) (v := ?_) #[true, true, true, true, true, false, false, false, true, true, true, false, false, false, false, false, false, false, false, false, false, false, false, false, false, false, false, false, false, false, false, false, false, false, false, false, false] (some 37) rfl rfl (by kernel_rfl) (by kernel_rfl) (by kernel_rfl) (by kernel_rfl) (by kernel_rfl) (fun _ _ _ h => h) (Or.inl ⟨by rfl, ?_⟩) hS ?_
      rotate_left
      · (intro w hSw; (try dsimp only at hSw); go_simp; all_goals with_reducible rfl)
      simp only [Act.put]
      refine wpAnyE_tk (i := 11) (v := ?_) #[true, true, true, true, true, false, false, false, true, true, true, true, false, false, false, false, false, false, false, false, false, false, false, false, false, false, false, false, false, false, false, false, false, false, false, false, false] (some 38) rfl rfl (by kernel_rfl) (by kernel_rfl) (by kernel_rfl) (by kernel_rfl) (by kernel_rfl) (fun _ _ _ h => h) (Or.inl ⟨by rfl, ?_⟩) hS ?_
      rotate_left
      · (intro w hSw; (try dsimp only at hSw); go_simp; all_goals with_reducible rfl)
      simp only [Act.put]
      refine wpAnyE_tk (i := 13) (v := ?_) #[true, true, true, true, true, false, false, false, true, true, true, true, false, true, false, false, false, false, false, false, false, false, false, false, false, false, false, false, false, false, false, false, false, false, false, false, false] (some 40) rfl rfl (by kernel_rfl) (by kernel_rfl) (by kernel_rfl) (by kernel_rfl) (by kernel_rfl) (fun _ _ _ h => h) (Or.inl ⟨by rfl, ?_⟩) hS ?_
      rotate_left
      · (intro w hSw; (try dsimp only at hSw); go_simp; all_goals with_reducible rfl)
      simp only [Act.put]
      refine wpAnyE_tk (i := 14) (v := ?_) #[true, true, true, true, true, false, false, false, true, true, true, true, false, true, true, false, false, false, false, false, false, false, false, false, false, false, false, false, false, false, false, false, false, false, false, false, false] (some 41) rfl rfl (by kernel_rfl) (by kernel_rfl) (by kernel_rfl) (by kernel_rfl) (by kernel_rfl) (fun _ _ _ h => h) (Or.inl ⟨by rfl, ?_⟩) hS ?_
      rotate_left
      · (intro w hSw; (try dsimp only at hSw); go_simp; all_goals with_reducible rfl)
      simp only [Act.put]
      refine wpAnyE_tk (i := 15) (v := ?_) #[true, true, true, true, true, false, false, false, true, true, true, true, false, true, true, true, false, false, false, false, false, false, false, false, false, false, false, false, false, false, false, false, false, false, false, false, false] (some 42) rfl rfl (by kernel_rfl) (by kernel_rfl) (by kernel_rfl) (by kernel_rfl) (by kernel_rfl) (fun _ _ _ h => h) (Or.inl ⟨by rfl, ?_⟩) hS ?_
      rotate_left
      · (intro w hSw; (try dsimp only at hSw); go_simp; all_goals with_reducible rfl)
      simp only [Act.put]
      refine wpAnyE_tk (i := 19) (v := ?_) #[true, true, true, true, true, false, false, false, true, true, true, true, false, true, true, true, false, false, false, true, false, false, false, false, false, false, false, false, false, false, false, false, false, false, false, false, false] (some 46) rfl rfl (by kernel_rfl) (by kernel_rfl) (by kernel_rfl) (by kernel_rfl) (by kernel_rfl) (fun _ _ _ h => h) (Or.inl ⟨by rfl, ?_⟩) hS ?_
      rotate_left
      · (intro w hSw; (try dsimp only at hSw); go_simp; all_goals with_reducible rfl)
      simp only [Act.put]
      refine wpAnyE_tk (i := 20) (v := ?_) #[true, true, true, true, true, false, false, false, true, true, true, true, false, true, true, true, false, false, false, true, true, false, false, false, false, false, false, false, false, false, false, false, false, false, false, false, false] (some 47) rfl rfl (by kernel_rfl) (by kernel_rfl) (by kernel_rfl) (by kernel_rfl) (by kernel_rfl) (fun _ _ _ h => h) (Or.inl ⟨by rfl, ?_⟩) hS ?_
      rotate_left
      · (intro w hSw; (try dsimp only at hSw); go_simp; all_goals with_reducible rfl)
      simp only [Act.put]
      refine wpAnyE_tk (i := 21) (v := ?_) #[true, true, true, true, true, false, false, false, true, true, true, true, false, true, true, true, false, false, false, true, true, true, false, false, false, false, false, false, false, false, false, false, false, false, false, false, false] (some 48) rfl rfl (by kernel_rfl) (by kernel_rfl) (by kernel_rfl) (by kernel_rfl) (by kernel_rfl) (fun _ _ _ h => h) (Or.inl ⟨by rfl, ?_⟩) hS ?_
      rotate_left
      · (intro w hSw; (try dsimp only at hSw); go_simp; all_goals with_reducible rfl)
      simp only [Act.put]
      refine wpAnyE_tk (i := 24) (v := ?_) #[true, true, true, true, true, false, false, false, true, true, true, true, false, true, true, true, false, false, false, true, true, true, false, false, true, false, false, false, false, false, false, false, false, false, false, false, false] (some 51) rfl rfl (by kernel_rfl) (by kernel_rfl) (by kernel_rfl) (by kernel_rfl) (by kernel_rfl) (fun _ _ _ h => h) (Or.inl ⟨by rfl, ?_⟩) hS ?_
      rotate_left
      · (intro w hSw; (try dsimp only at hSw); go_simp; all_goals with_reducible rfl)
      simp only [Act.put]
      refine wpAnyE_tk (i := 25) (v := ?_) #[true, true, true, true, true, false, false, false, true, true, true, true, false, true, true, true, false, false, false, true, true, true, false, false, true, true, false, false, false, false, false, false, false, false, false, false, false] (some 52) rfl rfl (by kernel_rfl) (by kernel_rfl) (by kernel_rfl) (by kernel_rfl) (by kernel_rfl) (fun _ _ _ h => h) (Or.inl ⟨by rfl, ?_⟩) hS ?_
      rotate_left
      · (intro w hSw; (try dsimp only at hSw); go_simp; all_goals with_reducible rfl)
      simp only [Act.put]
      refine wpAnyE_tk (i := 26) (v := ?_) #[true, true, true, true, true, false, false, false, true, true, true, true, false, true, true, true, false, false, false, true, true, true, false, false, true, true, true, false, false, false, false, false, false, false, false, false, false] (some 53) rfl rfl (by kernel_rfl) (by kernel_rfl) (by kernel_rfl) (by kernel_rfl) (by kernel_rfl) (fun _ _ _ h => h) (Or.inl ⟨by rfl, ?_⟩) hS ?_
      rotate_left
      · (intro w hSw; (try dsimp only at hSw); go_simp; all_goals with_reducible rfl)
      simp only [Act.put]
      refine wpAnyE_tk (i := 27) (v := ?_) #[true, true, true, true, true, false, false, false, true, true, true, true, false, true, true, true, false, false, false, true, true, true, false, false, true, true, true, true, false, false, false, false, false, false, false, false, false] (some 54) rfl rfl (by kernel_rfl) (by kernel_rfl) (by kernel_rfl) (by kernel_rfl) (by kernel_rfl) (fun _ _ _ h => h) (Or.inl ⟨by rfl, ?_⟩) hS ?_
      rotate_left
      · (intro w hSw; (try dsimp only at hSw); go_simp; all_goals with_reducible rfl)
      simp only [Act.put]
      refine wpAnyE_tk (i := 28) (v := ?_) #[true, true, true, true, true, false, false, false, true, true, true, true, false, true, true, true, false, false, false, true, true, true, false, false, true, true, true, true, true, false, false, false, false, false, false, false, false] (some 55) rfl rfl (by kernel_rfl) (by kernel_rfl) (by kernel_rfl) (by kernel_rfl) (by kernel_rfl) (fun _ _ _ h => h) (Or.inl ⟨by rfl, ?_⟩) hS ?_
      rotate_left
      · (intro w hSw; (try dsimp only at hSw); go_simp; all_goals with_reducible rfl)
      simp only [Act.put]
      refine wpAnyE_tk (i := 29) (v := ?_) #[true, true, true, true, true, false, false, false, true, true, true, true, false, true, true, true, false, false, false, true, true, true, false, false, true, true, true, true, true, true, false, false, false, false, false, false, false] (some 56) rfl rfl (by kernel_rfl) (by kernel_rfl) (by kernel_rfl) (by kernel_rfl) (by kernel_rfl) (fun _ _ _ h => h) (Or.inl ⟨by rfl, ?_⟩) hS ?_
      rotate_left
      · (intro w hSw; (try dsimp only at hSw); go_simp; all_goals with_reducible rfl)
      simp only [Act.put]
      refine wpAnyE_tk (i := 30) (v := ?_) #[true, true, true, true, true, false, false, false, true, true, true, true, false, true, true, true, false, false, false, true, true, true, false, false, true, true, true, true, true, true, true, false, false, false, false, false, false] (some 57) rfl rfl (by kernel_rfl) (by kernel_rfl) (by kernel_rfl) (by kernel_rfl) (by kernel_rfl) (fun _ _ _ h => h) (Or.inl ⟨by rfl, ?_⟩) hS ?_
      rotate_left
      · (intro w hSw; (try dsimp only at hSw); go_simp; all_goals with_reducible rfl)
      simp only [Act.put]
      refine wpAnyE_tk (i := 31) (v := ?_) #[true, true, true, true, true, false, false, false, true, true, true, true, false, true, true, true, false, false, false, true, true, true, false, false, true, true, true, true, true, true, true, true, false, false, false, false, false] (some 58) rfl rfl (by kernel_rfl) (by kernel_rfl) (by kernel_rfl) (by kernel_rfl) (by kernel_rfl) (fun _ _ _ h => h) (Or.inl ⟨by rfl, ?_⟩) hS ?_
      rotate_left
      · (intro w hSw; (try dsimp only at hSw); go_simp; all_goals with_reducible rfl)
      simp only [Act.put]
      clear ht0 ht1 ht2 ht3 hv0 hv1 hv2 hw1 hw2
      obtain ⟨sd, hsd⟩ : ∃ sd, sd = wDig k := ⟨_, rfl⟩
      obtain ⟨tone, htone⟩ : ∃ t, t = toneOf e := ⟨_, rfl⟩
      have hconv : ∀ (w' : World) (b : Nat), w'.cell? ⟨b, 0, none⟩ = some (.int .u8 (48 + (k : Int))) → (convert 70 9 (.slice (some ⟨b, 0, none⟩) 1 1)).run Tryz.prog w' = .ok (.string sd) w' := fun w' b hb => by
        rw [hsd]
        have := run_convert_bytes_back (P := Tryz.prog) w' 70 9 5 ⟨b, 0, none⟩ 1 [UInt8.ofNat (48 + k)] Tryz.underlying70 Tryz.underlying5 Tryz.underlying9 (fun j hj => by
          obtain rfl : j = 0 := by simpa using hj
          rw [show (Addr.mk b 0 none).add 0 = ⟨b, 0, none⟩ from rfl, hb]
          congr 2
          rw [List.getElem_cons_zero, UInt8.toNat_ofNat']
          omega)
        exact this
      have hsz : ¬ (9223372036854775807 < 1 + sd.size) := by rw [hsd, show (wDig k).size = 1 from rfl]; decide
      have HTN : Hid (([.string ⟨#[102, 108, 117, 116, 101]⟩, .string ⟨#[114, 101, 101, 100]⟩] : List Value)[e]? = some (.string tone)) := Lib.hid (by
        rw [htone]
        match e, he2 with
        | 0, _ => rfl
        | 1, _ => rfl)
      have HPT := Lib.hid (pit_get f hf6)
      have HCELL : Hid ((mkW k L[k]).cells = [.string (⟨#[119]⟩ ++ sd), .int .i64 r0, .string tone, .int .i64 (pitN f : Nat), .int .i64 (pitD f : Nat), .int .i64 (36 + (q : Int)), .int .i64 (36 + (q : Int) + (h : Int))]) := Lib.hid (by
        obtain ⟨e1, e2, e3, e4⟩ := HDEF.out
        rw [← HX.out, hsd, htone, e1, e2, e3, e4, HQ.out]
        rfl)
      have HTK := Lib.hid (mkWs_snoc L k hltL)
      obtain ⟨Wd, hWd⟩ : ∃ W, W = W0.drew := ⟨_, rfl⟩
      rw [← hWd] at hS ⊢
      have HEWd : Hid (MkRel w (some ⟨lb, lo, none⟩) xn xc bits A k cap L Wd) := Lib.hid (by rw [hWd]; exact HE0.out.below (bw_drew (Below.refl _ _)))
      have hld : wr.heap.size + 1 ≤ Wd.heap.size := by rw [hWd]; exact hl0
      clear hWd hl0 HE0 hsd htone
      refine wpAnyE_ready (rs := [5, 12, 18]) (by kernel_rfl) (by simp) ?_
      refine AllE.cons' (o := _) #[true, true, true, true, true, true, false, false, true, true, true, true, false, true, true, true, false, false, false, true, true, true, false, false, true, true, true, true, true, true, true, true, false, false, false, false, false] rfl (by kernel_rfl) (fun K hK => ?_) (AllE.cons' (o := _) #[true, true, true, true, true, false, false, false, true, true, true, true, true, true, true, true, false, false, false, true, true, true, false, false, true, true, true, true, true, true, true, true, false, false, false, false, false] rfl (by kernel_rfl) (fun K hK => ?_) (AllE.cons' (o := _) #[true, true, true, true, true, false, false, false, true, true, true, true, false, true, true, true, false, false, true, true, true, true, false, false, true, true, true, true, true, true, true, true, false, false, false, false, false] rfl (by kernel_rfl) (fun K hK => ?_) AllE.nil))
      · skip
        go_simp
        obtain ⟨W1, hWn⟩ : ∃ W, W = Wd.alloc (.cells #[.int .u8 (48 + (k : Int))] 5) := ⟨_, rfl⟩
        rw [← hWn]
        have hk : Below Wd.heap.size Wd W1 := by rw [hWn]; exact bw_new (Below.refl _ _) _
        have hlW1 : Wd.heap.size < W1.heap.size := by rw [hWn]; simp
        have hn : W1.cell? ⟨Wd.heap.size, 0, none⟩ = some (.int .u8 (48 + (k : Int))) := by rw [hWn]; exact (Blk.new (w := Wd) (cs := [.int .u8 (48 + (k : Int))])).cell 0
        have HEW1 := Lib.hid (HEWd.out.below hk)
        have hSn : W1.cell? ⟨w.heap.size + 1 + 1, 0, none⟩ = some (.slice A k cap) ∧ W1.cell? ⟨wr.heap.size, 0, none⟩ = some (.int .u8 dv) ∧ W1.cell? ⟨wr.heap.size, 1, none⟩ = some (.int .u8 tn) ∧ W1.cell? ⟨wr.heap.size, 2, none⟩ = some (.int .u8 ft) ∧ W1.cell? ⟨wr.heap.size, 4, none⟩ = some (.int .u8 ks) := by
          obtain ⟨s0, s1, s2, s3, s4⟩ := hS
          have hcc := (bcell hk).1
          exact ⟨(hcc _ _ (by omega)).trans s0, (hcc _ _ (by omega)).trans s1, (hcc _ _ (by omega)).trans s2, (hcc _ _ (by omega)).trans s3, (hcc _ _ (by omega)).trans s4⟩
        refine hK.out _ _ (fun _ => hSn) ?_
        try simp only [Act.put]
        replace hS := And.intro hSn hn
        clear hK K hk hSn hn hWn
        refine wpAnyE_more (S' := fun w' => (w'.cell? ⟨w.heap.size + 1 + 1, 0, none⟩ = some (.slice A k cap) ∧ w'.cell? ⟨wr.heap.size, 0, none⟩ = some (.int .u8 dv) ∧ w'.cell? ⟨wr.heap.size, 1, none⟩ = some (.int .u8 tn) ∧ w'.cell? ⟨wr.heap.size, 2, none⟩ = some (.int .u8 ft) ∧ w'.cell? ⟨wr.heap.size, 4, none⟩ = some (.int .u8 ks)) ∧ w'.cell? ⟨Wd.heap.size, 0, none⟩ = some (.int .u8 (48 + (k : Int)))) (fun _ h => h.1) _ _ _ _ ?_
        refine wpAnyE_tk (i := 6) (v := ?_) #[true, true, true, true, true, true, true, false, true, true, true, true, false, true, true, true, false, false, false, true, true, true, false, false, true, true, true, true, true, true, true, true, false, false, false, false, false] (some 33) rfl rfl (by kernel_rfl) (by kernel_rfl) (by kernel_rfl) (by kernel_rfl) (by kernel_rfl) (fun _ _ _ h => h) (Or.inl ⟨by rfl, ?_⟩) hS ?_
        rotate_left
        · (intro w hSw; (try dsimp only at hSw); go_simp; all_goals with_reducible rfl)
        simp only [Act.put]
        refine wpAnyE_tk (i := 7) (v := ?_) #[true, true, true, true, true, true, true, true, true, true, true, true, false, true, true, true, false, false, false, true, true, true, false, false, true, true, true, true, true, true, true, true, false, false, false, false, false] (some 34) rfl rfl (by kernel_rfl) (by kernel_rfl) (by kernel_rfl) (by kernel_rfl) (by kernel_rfl) (fun _ _ _ h => h) (Or.inl ⟨by rfl, ?_⟩) hS ?_
        rotate_left
        · (intro w hSw; (try dsimp only at hSw); go_simp; all_goals with_reducible rfl)
        simp only [Act.put]
        refine wpAnyE_ready (rs := [12, 18]) (by kernel_rfl) (by simp) ?_
        refine AllE.cons' (o := _) #[true, true, true, true, true, true, true, true, true, true, true, true, true, true, true, true, false, false, false, true, true, true, false, false, true, true, true, true, true, true, true, true, false, false, false, false, false] rfl (by kernel_rfl) (fun K hK => ?_) (AllE.cons' (o := _) #[true, true, true, true, true, true, true, true, true, true, true, true, false, true, true, true, false, false, true, true, true, true, false, false, true, true, true, true, true, true, true, true, false, false, false, false, false] rfl (by kernel_rfl) (fun K hK => ?_) AllE.nil)
        · skip
          go_simp
          obtain ⟨W2, hWn⟩ : ∃ W, W = W1.alloc (.cells #[.string ⟨#[102, 108, 117, 116, 101]⟩, .string ⟨#[114, 101, 101, 100]⟩] 9) := ⟨_, rfl⟩
          rw [← hWn]
          have hk : Below W1.heap.size W1 W2 := by rw [hWn]; exact bw_new (Below.refl _ _) _
          have hlW2 : W1.heap.size < W2.heap.size := by rw [hWn]; simp
          have hn : W2.cell? ⟨W1.heap.size, e, none⟩ = some (.string tone) := by rw [hWn]; exact ((Blk.new (w := W1) (cs := [.string ⟨#[102, 108, 117, 116, 101]⟩, .string ⟨#[114, 101, 101, 100]⟩])).cell e).trans HTN.out
          have HEW2 := Lib.hid (HEW1.out.below hk)
          have hSn : (W2.cell? ⟨w.heap.size + 1 + 1, 0, none⟩ = some (.slice A k cap) ∧ W2.cell? ⟨wr.heap.size, 0, none⟩ = some (.int .u8 dv) ∧ W2.cell? ⟨wr.heap.size, 1, none⟩ = some (.int .u8 tn) ∧ W2.cell? ⟨wr.heap.size, 2, none⟩ = some (.int .u8 ft) ∧ W2.cell? ⟨wr.heap.size, 4, none⟩ = some (.int .u8 ks)) ∧ W2.cell? ⟨Wd.heap.size, 0, none⟩ = some (.int .u8 (48 + (k : Int))) := by
            obtain ⟨⟨s0, s1, s2, s3, s4⟩, s5⟩ := hS
            have hcc := (bcell hk).1
            exact ⟨⟨(hcc _ _ (by omega)).trans s0, (hcc _ _ (by omega)).trans s1, (hcc _ _ (by omega)).trans s2, (hcc _ _ (by omega)).trans s3, (hcc _ _ (by omega)).trans s4⟩, (hcc _ _ (by omega)).trans s5⟩
          refine hK.out _ _ (fun _ => hSn) ?_
          try simp only [Act.put]
          replace hS := And.intro hSn hn
          clear hK K hk hSn hn hWn
          refine wpAnyE_more (S' := fun w' => ((w'.cell? ⟨w.heap.size + 1 + 1, 0, none⟩ = some (.slice A k cap) ∧ w'.cell? ⟨wr.heap.size, 0, none⟩ = some (.int .u8 dv) ∧ w'.cell? ⟨wr.heap.size, 1, none⟩ = some (.int .u8 tn) ∧ w'.cell? ⟨wr.heap.size, 2, none⟩ = some (.int .u8 ft) ∧ w'.cell? ⟨wr.heap.size, 4, none⟩ = some (.int .u8 ks)) ∧ w'.cell? ⟨Wd.heap.size, 0, none⟩ = some (.int .u8 (48 + (k : Int)))) ∧ w'.cell? ⟨W1.heap.size, e, none⟩ = some (.string tone)) (fun _ h => h.1) _ _ _ _ ?_
          refine wpAnyE_tk (i := 16) (v := ?_) #[true, true, true, true, true, true, true, true, true, true, true, true, true, true, true, true, true, false, false, true, true, true, false, false, true, true, true, true, true, true, true, true, false, false, false, false, false] (some 43) rfl rfl (by kernel_rfl) (by kernel_rfl) (by kernel_rfl) (by kernel_rfl) (by kernel_rfl) (fun _ _ _ h => h) (Or.inl ⟨by rfl, ?_⟩) hS ?_
          rotate_left
          · (intro w hSw; (try dsimp only at hSw); go_simp; all_goals with_reducible rfl)
          simp only [Act.put]
          refine wpAnyE_tk (i := 17) (v := ?_) #[true, true, true, true, true, true, true, true, true, true, true, true, true, true, true, true, true, true, false, true, true, true, false, false, true, true, true, true, true, true, true, true, false, false, false, false, false] (some 44) rfl rfl (by kernel_rfl) (by kernel_rfl) (by kernel_rfl) (by kernel_rfl) (by kernel_rfl) (fun _ _ _ h => h) (Or.inl ⟨by rfl, ?_⟩) hS ?_
          rotate_left
          · (intro w hSw; (try dsimp only at hSw); go_simp; all_goals with_reducible rfl)
          simp only [Act.put]
          refine wpAnyE_ready (rs := [18]) (by kernel_rfl) (by simp) ?_
          refine AllE.cons' (o := _) #[true, true, true, true, true, true, true, true, true, true, true, true, true, true, true, true, true, true, true, true, true, true, false, false, true, true, true, true, true, true, true, true, false, false, false, false, false] rfl (by kernel_rfl) (fun K hK => ?_) AllE.nil
          go_simp
          refine (pitches_any _).mono ?_
          rintro e' W3 ⟨g3, rfl, hg, hblk, hk⟩
          dsimp only
          have hlW3 : W2.heap.size ≤ W3.heap.size := hk.size
          have hgW3 : g3 < W3.heap.size := hblk.lt
          have hgW3b : W2.heap.size ≤ g3 := hg
          have hn : W3.cell? ⟨g3, f * 2, none⟩ = some (.int .i64 (pitN f : Nat)) ∧ W3.cell? ⟨g3, f * 2 + 1, none⟩ = some (.int .i64 (pitD f : Nat)) := ⟨(hblk.cell _).trans HPT.out.1, (hblk.cell _).trans HPT.out.2⟩
          have HEW3 := Lib.hid (HEW2.out.below hk)
          have hSn : ((W3.cell? ⟨w.heap.size + 1 + 1, 0, none⟩ = some (.slice A k cap) ∧ W3.cell? ⟨wr.heap.size, 0, none⟩ = some (.int .u8 dv) ∧ W3.cell? ⟨wr.heap.size, 1, none⟩ = some (.int .u8 tn) ∧ W3.cell? ⟨wr.heap.size, 2, none⟩ = some (.int .u8 ft) ∧ W3.cell? ⟨wr.heap.size, 4, none⟩ = some (.int .u8 ks)) ∧ W3.cell? ⟨Wd.heap.size, 0, none⟩ = some (.int .u8 (48 + (k : Int)))) ∧ W3.cell? ⟨W1.heap.size, e, none⟩ = some (.string tone) := by
            obtain ⟨⟨⟨s0, s1, s2, s3, s4⟩, s5⟩, s6⟩ := hS
            have hcc := (bcell hk).1
            exact ⟨⟨⟨(hcc _ _ (by omega)).trans s0, (hcc _ _ (by omega)).trans s1, (hcc _ _ (by omega)).trans s2, (hcc _ _ (by omega)).trans s3, (hcc _ _ (by omega)).trans s4⟩, (hcc _ _ (by omega)).trans s5⟩, (hcc _ _ (by omega)).trans s6⟩
          refine hK.out _ _ (fun _ => hSn) ?_
          try simp only [Act.put]
          replace hS := And.intro hSn hn
          clear hK K hk hSn hn hg hblk
          refine wpAnyE_more (S' := fun w' => (((w'.cell? ⟨w.heap.size + 1 + 1, 0, none⟩ = some (.slice A k cap) ∧ w'.cell? ⟨wr.heap.size, 0, none⟩ = some (.int .u8 dv) ∧ w'.cell? ⟨wr.heap.size, 1, none⟩ = some (.int .u8 tn) ∧ w'.cell? ⟨wr.heap.size, 2, none⟩ = some (.int .u8 ft) ∧ w'.cell? ⟨wr.heap.size, 4, none⟩ = some (.int .u8 ks)) ∧ w'.cell? ⟨Wd.heap.size, 0, none⟩ = some (.int .u8 (48 + (k : Int)))) ∧ w'.cell? ⟨W1.heap.size, e, none⟩ = some (.string tone)) ∧ w'.cell? ⟨g3, f * 2, none⟩ = some (.int .i64 (pitN f : Nat)) ∧ w'.cell? ⟨g3, f * 2 + 1, none⟩ = some (.int .i64 (pitD f : Nat))) (fun _ h => h.1) _ _ _ _ ?_
          refine wpAnyE_tk (i := 22) (v := ?_) #[true, true, true, true, true, true, true, true, true, true, true, true, true, true, true, true, true, true, true, true, true, true, true, false, true, true, true, true, true, true, true, true, false, false, false, false, false] (some 49) rfl rfl (by kernel_rfl) (by kernel_rfl) (by kernel_rfl) (by kernel_rfl) (by kernel_rfl) (fun _ _ _ h => h) (Or.inl ⟨by rfl, ?_⟩) hS ?_
          rotate_left
          · (intro w hSw; (try dsimp only at hSw); go_simp; all_goals with_reducible rfl)
          simp only [Act.put]
          refine wpAnyE_tk (i := 23) (v := ?_) #[true, true, true, true, true, true, true, true, true, true, true, true, true, true, true, true, true, true, true, true, true, true, true, true, true, true, true, true, true, true, true, true, false, false, false, false, false] (some 50) rfl rfl (by kernel_rfl) (by kernel_rfl) (by kernel_rfl) (by kernel_rfl) (by kernel_rfl) (fun _ _ _ h => h) (Or.inl ⟨by rfl, ?_⟩) hS ?_
          rotate_left
          · (intro w hSw; (try dsimp only at hSw); go_simp; all_goals with_reducible rfl)
          simp only [Act.put]
          refine wpAnyE_tk (i := 32) (v := ?_) #[true, true, true, true, true, true, true, true, true, true, true, true, true, true, true, true, true, true, true, true, true, true, true, true, true, true, true, true, true, true, true, true, true, false, false, false, false] (some 59) rfl rfl (by kernel_rfl) (by kernel_rfl) (by kernel_rfl) (by kernel_rfl) (by kernel_rfl) (fun _ _ _ h => h) (Or.inl ⟨by rfl, ?_⟩) hS ?_
          rotate_left
          · (intro w hSw; (try dsimp only at hSw); go_simp; all_goals with_reducible rfl)
          simp only [Act.put]
          refine wpAnyE_ready (rs := [33]) (by kernel_rfl) (by simp) ?_
          refine AllE.cons' (o := _) #[true, true, true, true, true, true, true, true, true, true, true, true, true, true, true, true, true, true, true, true, true, true, true, true, true, true, true, true, true, true, true, true, true, true, false, false, false] rfl (by kernel_rfl) (fun K hK => ?_) AllE.nil
          go_simp
          obtain ⟨Wu, hWn⟩ : ∃ W, W = W3.alloc (.cells #[.string (⟨#[119]⟩ ++ sd), .int .i64 r0, .string tone, .int .i64 (pitN f : Nat), .int .i64 (pitD f : Nat), .int .i64 (36 + (q : Int)), .int .i64 (36 + (q : Int) + (h : Int))] 51) := ⟨_, rfl⟩
          rw [← hWn]
          have hk : Below W3.heap.size W3 Wu := by rw [hWn]; exact bw_new (Below.refl _ _) _
          have hlu : Wu.heap.size = W3.heap.size + 1 := by rw [hWn]; simp
          have hnew := World.news_of_block (cs := #[.string (⟨#[119]⟩ ++ sd), .int .i64 r0, .string tone, .int .i64 (pitN f : Nat), .int .i64 (pitD f : Nat), .int .i64 (36 + (q : Int)), .int .i64 (36 + (q : Int) + (h : Int))]) (t := 51) (fr := (0, 0)) (heap_alloc_new W3 (.cells #[.string (⟨#[119]⟩ ++ sd), .int .i64 r0, .string tone, .int .i64 (pitN f : Nat), .int .i64 (pitD f : Nat), .int .i64 (36 + (q : Int)), .int .i64 (36 + (q : Int) + (h : Int))] 51))
          rw [← hWn] at hnew
          have HEWu := Lib.hid (HEW3.out.below hk)
          have hSn : (((Wu.cell? ⟨w.heap.size + 1 + 1, 0, none⟩ = some (.slice A k cap) ∧ Wu.cell? ⟨wr.heap.size, 0, none⟩ = some (.int .u8 dv) ∧ Wu.cell? ⟨wr.heap.size, 1, none⟩ = some (.int .u8 tn) ∧ Wu.cell? ⟨wr.heap.size, 2, none⟩ = some (.int .u8 ft) ∧ Wu.cell? ⟨wr.heap.size, 4, none⟩ = some (.int .u8 ks)) ∧ Wu.cell? ⟨Wd.heap.size, 0, none⟩ = some (.int .u8 (48 + (k : Int)))) ∧ Wu.cell? ⟨W1.heap.size, e, none⟩ = some (.string tone)) ∧ Wu.cell? ⟨g3, f * 2, none⟩ = some (.int .i64 (pitN f : Nat)) ∧ Wu.cell? ⟨g3, f * 2 + 1, none⟩ = some (.int .i64 (pitD f : Nat)) := by
            obtain ⟨⟨⟨⟨s0, s1, s2, s3, s4⟩, s5⟩, s6⟩, s7, s8⟩ := hS
            have hcc := (bcell hk).1
            exact ⟨⟨⟨⟨(hcc _ _ (by omega)).trans s0, (hcc _ _ (by omega)).trans s1, (hcc _ _ (by omega)).trans s2, (hcc _ _ (by omega)).trans s3, (hcc _ _ (by omega)).trans s4⟩, (hcc _ _ (by omega)).trans s5⟩, (hcc _ _ (by omega)).trans s6⟩, (hcc _ _ (by omega)).trans s7, (hcc _ _ (by omega)).trans s8⟩
          refine hK.out _ _ (fun _ => hSn) ?_
          try simp only [Act.put]
          replace hS := hSn
          clear hK K hk hSn hWn
          refine wpAnyE_ready (rs := [34]) (by kernel_rfl) (by simp) ?_
          refine AllE.cons' (o := _) #[true, true, true, true, true, true, true, true, true, true, true, true, true, true, true, true, true, true, true, true, true, true, true, true, true, true, true, true, true, true, true, true, true, true, true, false, false] rfl (by kernel_rfl) (fun K hK => ?_) AllE.nil
          refine step_append_lies _ (by rfl) _ _ _ (by rfl) (w.heap.size + 3) 51 i0 (.agg #[.string ⟨#[]⟩, .int .i64 0, .string ⟨#[]⟩, .int .i64 0, .int .i64 0, .int .i64 0, .int .i64 0]) 7 72 Tryz.underlying27 HHI.out HZ0.out HZ1.out HZ2.out rfl (by decide) (.slice A k cap) k (wsCells (mkWs 0 (L.take k))) (by rfl) HEWu.out.1
            ⟨W3.heap.size, 0, none⟩ 1 1 [.string (⟨#[119]⟩ ++ sd), .int .i64 r0, .string tone, .int .i64 (pitN f : Nat), .int .i64 (pitD f : Nat), .int .i64 (36 + (q : Int)), .int .i64 (36 + (q : Int) + (h : Int))] (by rfl) (by rfl) hnew (by simp [Value.oneCell'])
            (by omega) (by unfold maxLen; omega) (by omega) (by omega) Wu.heap.size rfl ?_
          intro g cap2 Wv hown hgrow hat hlt
          have hSn : (((Wv.cell? ⟨w.heap.size + 1 + 1, 0, none⟩ = some (.slice A k cap) ∧ Wv.cell? ⟨wr.heap.size, 0, none⟩ = some (.int .u8 dv) ∧ Wv.cell? ⟨wr.heap.size, 1, none⟩ = some (.int .u8 tn) ∧ Wv.cell? ⟨wr.heap.size, 2, none⟩ = some (.int .u8 ft) ∧ Wv.cell? ⟨wr.heap.size, 4, none⟩ = some (.int .u8 ks)) ∧ Wv.cell? ⟨Wd.heap.size, 0, none⟩ = some (.int .u8 (48 + (k : Int)))) ∧ Wv.cell? ⟨W1.heap.size, e, none⟩ = some (.string tone)) ∧ Wv.cell? ⟨g3, f * 2, none⟩ = some (.int .i64 (pitN f : Nat)) ∧ Wv.cell? ⟨g3, f * 2 + 1, none⟩ = some (.int .i64 (pitD f : Nat)) := by
            obtain ⟨⟨⟨⟨s0, s1, s2, s3, s4⟩, s5⟩, s6⟩, s7, s8⟩ := hS
            have hcc : ∀ b o, b < Wu.heap.size → (b = w.heap.size + 1 + 1 ∨ wr.heap.size ≤ b) → Wv.cell? ⟨b, o, none⟩ = Wu.cell? ⟨b, o, none⟩ := fun b o h1 h2 => World.cell?_of_block (hgrow.block b h1 (fun e => by
              have ha := (HEWu.out.1.lt _ e.symm).1
              have hb := (HRL.out.1.lt _ e.symm).2
              omega))
            exact ⟨⟨⟨⟨(hcc _ _ (by omega) (by omega)).trans s0, (hcc _ _ (by omega) (by omega)).trans s1, (hcc _ _ (by omega) (by omega)).trans s2, (hcc _ _ (by omega) (by omega)).trans s3, (hcc _ _ (by omega) (by omega)).trans s4⟩, (hcc _ _ (by omega) (by omega)).trans s5⟩, (hcc _ _ (by omega) (by omega)).trans s6⟩, (hcc _ _ (by omega) (by omega)).trans s7, (hcc _ _ (by omega) (by omega)).trans s8⟩
          have HF := Lib.hid (mk_grown HEWu.out hown hgrow hat rfl HCELL.out HTK.out)
          obtain ⟨q0, q1⟩ := HF.out.2.2.1.two
          have q2 := HF.out.2.2.1.frozen 0
          refine hK.out _ _ (fun _ => hSn) ?_
          replace hS := hSn
          clear hK K hSn hown hgrow hat hlt
          try simp only [Act.put]
          refine wpAnyE_tk (i := 35) (v := ?_) #[true, true, true, true, true, true, true, true, true, true, true, true, true, true, true, true, true, true, true, true, true, true, true, true, true, true, true, true, true, true, true, true, true, true, true, true, false] (some 62) rfl rfl (by kernel_rfl) (by kernel_rfl) (by kernel_rfl) (by kernel_rfl) (by kernel_rfl) (fun _ _ _ h => h) (Or.inl ⟨by rfl, ?_⟩) hS ?_
          rotate_left
          · (intro w hSw; (try dsimp only at hSw); go_simp; all_goals with_reducible rfl)
          simp only [Act.put]
          refine wpAnyE_ready (rs := [36]) (by kernel_rfl) (by simp) ?_
          refine AllE.cons' (o := _) #[true, true, true, true, true, true, true, true, true, true, true, true, true, true, true, true, true, true, true, true, true, true, true, true, true, true, true, true, true, true, true, true, true, true, true, true, true] rfl (by kernel_rfl) (fun K hK => ?_) AllE.nil
          go_simp
          refine hK.out _ _ (fun h => absurd rfl h) ?_
          clear hK K hS q0 q1 q2
          try simp only [Act.put]
          refine wpAnyE_done (by kernel_rfl) ?_ _
          have HF2 := Lib.hid (mk_stored HF.out)
          go_wp2
          go_roundw
          case rel => exact ⟨k + 1, _, _, by omega, by go_num, HF2.out⟩
          case measure => simp [intOf]; omega
        · skip
          go_simp
          refine (pitches_any _).mono ?_
          rintro e' W4 ⟨g4, rfl, hg, hblk, hk⟩
          dsimp only
          have hlW4 : W1.heap.size ≤ W4.heap.size := hk.size
          have hgW4 : g4 < W4.heap.size := hblk.lt
          have hgW4b : W1.heap.size ≤ g4 := hg
          have hn : W4.cell? ⟨g4, f * 2, none⟩ = some (.int .i64 (pitN f : Nat)) ∧ W4.cell? ⟨g4, f * 2 + 1, none⟩ = some (.int .i64 (pitD f : Nat)) := ⟨(hblk.cell _).trans HPT.out.1, (hblk.cell _).trans HPT.out.2⟩
          have HEW4 := Lib.hid (HEW1.out.below hk)
          have hSn : (W4.cell? ⟨w.heap.size + 1 + 1, 0, none⟩ = some (.slice A k cap) ∧ W4.cell? ⟨wr.heap.size, 0, none⟩ = some (.int .u8 dv) ∧ W4.cell? ⟨wr.heap.size, 1, none⟩ = some (.int .u8 tn) ∧ W4.cell? ⟨wr.heap.size, 2, none⟩ = some (.int .u8 ft) ∧ W4.cell? ⟨wr.heap.size, 4, none⟩ = some (.int .u8 ks)) ∧ W4.cell? ⟨Wd.heap.size, 0, none⟩ = some (.int .u8 (48 + (k : Int))) := by
            obtain ⟨⟨s0, s1, s2, s3, s4⟩, s5⟩ := hS
            have hcc := (bcell hk).1
            exact ⟨⟨(hcc _ _ (by omega)).trans s0, (hcc _ _ (by omega)).trans s1, (hcc _ _ (by omega)).trans s2, (hcc _ _ (by omega)).trans s3, (hcc _ _ (by omega)).trans s4⟩, (hcc _ _ (by omega)).trans s5⟩
          refine hK.out _ _ (fun _ => hSn) ?_
          try simp only [Act.put]
          replace hS := And.intro hSn hn
          clear hK K hk hSn hn hg hblk
          refine wpAnyE_more (S' := fun w' => ((w'.cell? ⟨w.heap.size + 1 + 1, 0, none⟩ = some (.slice A k cap) ∧ w'.cell? ⟨wr.heap.size, 0, none⟩ = some (.int .u8 dv) ∧ w'.cell? ⟨wr.heap.size, 1, none⟩ = some (.int .u8 tn) ∧ w'.cell? ⟨wr.heap.size, 2, none⟩ = some (.int .u8 ft) ∧ w'.cell? ⟨wr.heap.size, 4, none⟩ = some (.int .u8 ks)) ∧ w'.cell? ⟨Wd.heap.size, 0, none⟩ = some (.int .u8 (48 + (k : Int)))) ∧ w'.cell? ⟨g4, f * 2, none⟩ = some (.int .i64 (pitN f : Nat)) ∧ w'.cell? ⟨g4, f * 2 + 1, none⟩ = some (.int .i64 (pitD f : Nat))) (fun _ h => h.1) _ _ _ _ ?_
          refine wpAnyE_tk (i := 22) (v := ?_) #[true, true, true, true, true, true, true, true, true, true, true, true, false, true, true, true, false, false, true, true, true, true, true, false, true, true, true, true, true, true, true, true, false, false, false, false, false] (some 49) rfl rfl (by kernel_rfl) (by kernel_rfl) (by kernel_rfl) (by kernel_rfl) (by kernel_rfl) (fun _ _ _ h => h) (Or.inl ⟨by rfl, ?_⟩) hS ?_
          rotate_left
          · (intro w hSw; (try dsimp only at hSw); go_simp; all_goals with_reducible rfl)
          simp only [Act.put]
          refine wpAnyE_tk (i := 23) (v := ?_) #[true, true, true, true, true, true, true, true, true, true, true, true, false, true, true, true, false, false, true, true, true, true, true, true, true, true, true, true, true, true, true, true, false, false, false, false, false] (some 50) rfl rfl (by kernel_rfl) (by kernel_rfl) (by kernel_rfl) (by kernel_rfl) (by kernel_rfl) (fun _ _ _ h => h) (Or.inl ⟨by rfl, ?_⟩) hS ?_
          rotate_left
          · (intro w hSw; (try dsimp only at hSw); go_simp; all_goals with_reducible rfl)
          simp only [Act.put]
          refine wpAnyE_ready (rs := [12]) (by kernel_rfl) (by simp) ?_
          refine AllE.cons' (o := _) #[true, true, true, true, true, true, true, true, true, true, true, true, true, true, true, true, false, false, true, true, true, true, true, true, true, true, true, true, true, true, true, true, false, false, false, false, false] rfl (by kernel_rfl) (fun K hK => ?_) AllE.nil
          go_simp
          obtain ⟨W5, hWn⟩ : ∃ W, W = W4.alloc (.cells #[.string ⟨#[102, 108, 117, 116, 101]⟩, .string ⟨#[114, 101, 101, 100]⟩] 9) := ⟨_, rfl⟩
          rw [← hWn]
          have hk : Below W4.heap.size W4 W5 := by rw [hWn]; exact bw_new (Below.refl _ _) _
          have hlW5 : W4.heap.size < W5.heap.size := by rw [hWn]; simp
          have hn : W5.cell? ⟨W4.heap.size, e, none⟩ = some (.string tone) := by rw [hWn]; exact ((Blk.new (w := W4) (cs := [.string ⟨#[102, 108, 117, 116, 101]⟩, .string ⟨#[114, 101, 101, 100]⟩])).cell e).trans HTN.out
          have HEW5 := Lib.hid (HEW4.out.below hk)
          have hSn : ((W5.cell? ⟨w.heap.size + 1 + 1, 0, none⟩ = some (.slice A k cap) ∧ W5.cell? ⟨wr.heap.size, 0, none⟩ = some (.int .u8 dv) ∧ W5.cell? ⟨wr.heap.size, 1, none⟩ = some (.int .u8 tn) ∧ W5.cell? ⟨wr.heap.size, 2, none⟩ = some (.int .u8 ft) ∧ W5.cell? ⟨wr.heap.size, 4, none⟩ = some (.int .u8 ks)) ∧ W5.cell? ⟨Wd.heap.size, 0, none⟩ = some (.int .u8 (48 + (k : Int)))) ∧ W5.cell? ⟨g4, f * 2, none⟩ = some (.int .i64 (pitN f : Nat)) ∧ W5.cell? ⟨g4, f * 2 + 1, none⟩ = some (.int .i64 (pitD f : Nat)) := by
            obtain ⟨⟨⟨s0, s1, s2, s3, s4⟩, s5⟩, s6, s7⟩ := hS
            have hcc := (bcell hk).1
            exact ⟨⟨⟨(hcc _ _ (by omega)).trans s0, (hcc _ _ (by omega)).trans s1, (hcc _ _ (by omega)).trans s2, (hcc _ _ (by omega)).trans s3, (hcc _ _ (by omega)).trans s4⟩, (hcc _ _ (by omega)).trans s5⟩, (hcc _ _ (by omega)).trans s6, (hcc _ _ (by omega)).trans s7⟩
          refine hK.out _ _ (fun _ => hSn) ?_
          try simp only [Act.put]
          replace hS := And.intro hSn hn
          clear hK K hk hSn hn hWn
          refine wpAnyE_more (S' := fun w' => (((w'.cell? ⟨w.heap.size + 1 + 1, 0, none⟩ = some (.slice A k cap) ∧ w'.cell? ⟨wr.heap.size, 0, none⟩ = some (.int .u8 dv) ∧ w'.cell? ⟨wr.heap.size, 1, none⟩ = some (.int .u8 tn) ∧ w'.cell? ⟨wr.heap.size, 2, none⟩ = some (.int .u8 ft) ∧ w'.cell? ⟨wr.heap.size, 4, none⟩ = some (.int .u8 ks)) ∧ w'.cell? ⟨Wd.heap.size, 0, none⟩ = some (.int .u8 (48 + (k : Int)))) ∧ w'.cell? ⟨g4, f * 2, none⟩ = some (.int .i64 (pitN f : Nat)) ∧ w'.cell? ⟨g4, f * 2 + 1, none⟩ = some (.int .i64 (pitD f : Nat))) ∧ w'.cell? ⟨W4.heap.size, e, none⟩ = some (.string tone)) (fun _ h => h.1) _ _ _ _ ?_
          refine wpAnyE_tk (i := 16) (v := ?_) #[true, true, true, true, true, true, true, true, true, true, true, true, true, true, true, true, true, false, true, true, true, true, true, true, true, true, true, true, true, true, true, true, false, false, false, false, false] (some 43) rfl rfl (by kernel_rfl) (by kernel_rfl) (by kernel_rfl) (by kernel_rfl) (by kernel_rfl) (fun _ _ _ h => h) (Or.inl ⟨by rfl, ?_⟩) hS ?_
          rotate_left
          · (intro w hSw; (try dsimp only at hSw); go_simp; all_goals with_reducible rfl)
          simp only [Act.put]
          refine wpAnyE_tk (i := 17) (v := ?_) #[true, true, true, true, true, true, true, true, true, true, true, true, true, true, true, true, true, true, true, true, true, true, true, true, true, true, true, true, true, true, true, true, false, false, false, false, false] (some 44) rfl rfl (by kernel_rfl) (by kernel_rfl) (by kernel_rfl) (by kernel_rfl) (by kernel_rfl) (fun _ _ _ h => h) (Or.inl ⟨by rfl, ?_⟩) hS ?_
          rotate_left
          · (intro w hSw; (try dsimp only at hSw); go_simp; all_goals with_reducible rfl)
          simp only [Act.put]
          refine wpAnyE_tk (i := 32) (v := ?_) #[true, true, true, true, true, true, true, true, true, true, true, true, true, true, true, true, true, true, true, true, true, true, true, true, true, true, true, true, true, true, true, true, true, false, false, false, false] (some 59) rfl rfl (by kernel_rfl) (by kernel_rfl) (by kernel_rfl) (by kernel_rfl) (by kernel_rfl) (fun _ _ _ h => h) (Or.inl ⟨by rfl, ?_⟩) hS ?_
          rotate_left
          · (intro w hSw; (try dsimp only at hSw); go_simp; all_goals with_reducible rfl)
          simp only [Act.put]
          refine wpAnyE_ready (rs := [33]) (by kernel_rfl) (by simp) ?_
          refine AllE.cons' (o := _) #[true, true, true, true, true, true, true, true, true, true, true, true, true, true, true, true, true, true, true, true, true, true, true, true, true, true, true, true, true, true, true, true, true, true, false, false, false] rfl (by kernel_rfl) (fun K hK => ?_) AllE.nil
          go_simp
          obtain ⟨Wu, hWn⟩ : ∃ W, W = W5.alloc (.cells #[.string (⟨#[119]⟩ ++ sd), .int .i64 r0, .string tone, .int .i64 (pitN f : Nat), .int .i64 (pitD f : Nat), .int .i64 (36 + (q : Int)), .int .i64 (36 + (q : Int) + (h : Int))] 51) := ⟨_, rfl⟩
          rw [← hWn]
          have hk : Below W5.heap.size W5 Wu := by rw [hWn]; exact bw_new (Below.refl _ _) _
          have hlu : Wu.heap.size = W5.heap.size + 1 := by rw [hWn]; simp
          have hnew := World.news_of_block (cs := #[.string (⟨#[119]⟩ ++ sd), .int .i64 r0, .string tone, .int .i64 (pitN f : Nat), .int .i64 (pitD f : Nat), .int .i64 (36 + (q : Int)), .int .i64 (36 + (q : Int) + (h : Int))]) (t := 51) (fr := (0, 0)) (heap_alloc_new W5 (.cells #[.string (⟨#[119]⟩ ++ sd), .int .i64 r0, .string tone, .int .i64 (pitN f : Nat), .int .i64 (pitD f : Nat), .int .i64 (36 + (q : Int)), .int .i64 (36 + (q : Int) + (h : Int))] 51))
          rw [← hWn] at hnew
          have HEWu := Lib.hid (HEW5.out.below hk)
          have hSn : (((Wu.cell? ⟨w.heap.size + 1 + 1, 0, none⟩ = some (.slice A k cap) ∧ Wu.cell? ⟨wr.heap.size, 0, none⟩ = some (.int .u8 dv) ∧ Wu.cell? ⟨wr.heap.size, 1, none⟩ = some (.int .u8 tn) ∧ Wu.cell? ⟨wr.heap.size, 2, none⟩ = some (.int .u8 ft) ∧ Wu.cell? ⟨wr.heap.size, 4, none⟩ = some (.int .u8 ks)) ∧ Wu.cell? ⟨Wd.heap.size, 0, none⟩ = some (.int .u8 (48 + (k : Int)))) ∧ Wu.cell? ⟨g4, f * 2, none⟩ = some (.int .i64 (pitN f : Nat)) ∧ Wu.cell? ⟨g4, f * 2 + 1, none⟩ = some (.int .i64 (pitD f : Nat))) ∧ Wu.cell? ⟨W4.heap.size, e, none⟩ = some (.string tone) := by
            obtain ⟨⟨⟨⟨s0, s1, s2, s3, s4⟩, s5⟩, s6, s7⟩, s8⟩ := hS
            have hcc := (bcell hk).1
            exact ⟨⟨⟨⟨(hcc _ _ (by omega)).trans s0, (hcc _ _ (by omega)).trans s1, (hcc _ _ (by omega)).trans s2, (hcc _ _ (by omega)).trans s3, (hcc _ _ (by omega)).trans s4⟩, (hcc _ _ (by omega)).trans s5⟩, (hcc _ _ (by omega)).trans s6, (hcc _ _ (by omega)).trans s7⟩, (hcc _ _ (by omega)).trans s8⟩
          refine hK.out _ _ (fun _ => hSn) ?_
          try simp only [Act.put]
          replace hS := hSn
          clear hK K hk hSn hWn
          refine wpAnyE_ready (rs := [34]) (by kernel_rfl) (by simp) ?_
          refine AllE.cons' (o := _) #[true, true, true, true, true, true, true, true, true, true, true, true, true, true, true, true, true, true, true, true, true, true, true, true, true, true, true, true, true, true, true, true, true, true, true, false, false] rfl (by kernel_rfl) (fun K hK => ?_) AllE.nil
          refine step_append_lies _ (by rfl) _ _ _ (by rfl) (w.heap.size + 3) 51 i0 (.agg #[.string ⟨#[]⟩, .int .i64 0, .string ⟨#[]⟩, .int .i64 0, .int .i64 0, .int .i64 0, .int .i64 0]) 7 72 Tryz.underlying27 HHI.out HZ0.out HZ1.out HZ2.out rfl (by decide) (.slice A k cap) k (wsCells (mkWs 0 (L.take k))) (by rfl) HEWu.out.1
            ⟨W5.heap.size, 0, none⟩ 1 1 [.string (⟨#[119]⟩ ++ sd), .int .i64 r0, .string tone, .int .i64 (pitN f : Nat), .int .i64 (pitD f : Nat), .int .i64 (36 + (q : Int)), .int .i64 (36 + (q : Int) + (h : Int))] (by rfl) (by rfl) hnew (by simp [Value.oneCell'])
            (by omega) (by unfold maxLen; omega) (by omega) (by omega) Wu.heap.size rfl ?_
          intro g cap2 Wv hown hgrow hat hlt
          have hSn : (((Wv.cell? ⟨w.heap.size + 1 + 1, 0, none⟩ = some (.slice A k cap) ∧ Wv.cell? ⟨wr.heap.size, 0, none⟩ = some (.int .u8 dv) ∧ Wv.cell? ⟨wr.heap.size, 1, none⟩ = some (.int .u8 tn) ∧ Wv.cell? ⟨wr.heap.size, 2, none⟩ = some (.int .u8 ft) ∧ Wv.cell? ⟨wr.heap.size, 4, none⟩ = some (.int .u8 ks)) ∧ Wv.cell? ⟨Wd.heap.size, 0, none⟩ = some (.int .u8 (48 + (k : Int)))) ∧ Wv.cell? ⟨g4, f * 2, none⟩ = some (.int .i64 (pitN f : Nat)) ∧ Wv.cell? ⟨g4, f * 2 + 1, none⟩ = some (.int .i64 (pitD f : Nat))) ∧ Wv.cell? ⟨W4.heap.size, e, none⟩ = some (.string tone) := by
            obtain ⟨⟨⟨⟨s0, s1, s2, s3, s4⟩, s5⟩, s6, s7⟩, s8⟩ := hS
            have hcc : ∀ b o, b < Wu.heap.size → (b = w.heap.size + 1 + 1 ∨ wr.heap.size ≤ b) → Wv.cell? ⟨b, o, none⟩ = Wu.cell? ⟨b, o, none⟩ := fun b o h1 h2 => World.cell?_of_block (hgrow.block b h1 (fun e => by
              have ha := (HEWu.out.1.lt _ e.symm).1
              have hb := (HRL.out.1.lt _ e.symm).2
              omega))
            exact ⟨⟨⟨⟨(hcc _ _ (by omega) (by omega)).trans s0, (hcc _ _ (by omega) (by omega)).trans s1, (hcc _ _ (by omega) (by omega)).trans s2, (hcc _ _ (by omega) (by omega)).trans s3, (hcc _ _ (by omega) (by omega)).trans s4⟩, (hcc _ _ (by omega) (by omega)).trans s5⟩, (hcc _ _ (by omega) (by omega)).trans s6, (hcc _ _ (by omega) (by omega)).trans s7⟩, (hcc _ _ (by omega) (by omega)).trans s8⟩
          have HF := Lib.hid (mk_grown HEWu.out hown hgrow hat rfl HCELL.out HTK.out)
          obtain ⟨q0, q1⟩ := HF.out.2.2.1.two
          have q2 := HF.out.2.2.1.frozen 0
          refine hK.out _ _ (fun _ => hSn) ?_
          replace hS := hSn
          clear hK K hSn hown hgrow hat hlt
          try simp only [Act.put]
          refine wpAnyE_tk (i := 35) (v := ?_) #[true, true, true, true, true, true, true, true, true, true, true, true, true, true, true, true, true, true, true, true, true, true, true, true, true, true, true, true, true, true, true, true, true, true, true, true, false] (some 62) rfl rfl (by kernel_rfl) (by kernel_rfl) (by kernel_rfl) (by kernel_rfl) (by kernel_rfl) (fun _ _ _ h => h) (Or.inl ⟨by rfl, ?_⟩) hS ?_
          rotate_left
          · (intro w hSw; (try dsimp only at hSw); go_simp; all_goals with_reducible rfl)
          simp only [Act.put]
          refine wpAnyE_ready (rs := [36]) (by kernel_rfl) (by simp) ?_
          refine AllE.cons' (o := _) #[true, true, true, true, true, true, true, true, true, true, true, true, true, true, true, true, true, true, true, true, true, true, true, true, true, true, true, true, true, true, true, true, true, true, true, true, true] rfl (by kernel_rfl) (fun K hK => ?_) AllE.nil
          go_simp
          refine hK.out _ _ (fun h => absurd rfl h) ?_
          clear hK K hS q0 q1 q2
          try simp only [Act.put]
          refine wpAnyE_done (by kernel_rfl) ?_ _
          have HF2 := Lib.hid (mk_stored HF.out)
          go_wp2
          go_roundw
          case rel => exact ⟨k + 1, _, _, by omega, by go_num, HF2.out⟩
          case measure => simp [intOf]; omega
      · skip
        go_simp
        obtain ⟨W6, hWn⟩ : ∃ W, W = Wd.alloc (.cells #[.string ⟨#[102, 108, 117, 116, 101]⟩, .string ⟨#[114, 101, 101, 100]⟩] 9) := ⟨_, rfl⟩
        rw [← hWn]
        have hk : Below Wd.heap.size Wd W6 := by rw [hWn]; exact bw_new (Below.refl _ _) _
        have hlW6 : Wd.heap.size < W6.heap.size := by rw [hWn]; simp
        have hn : W6.cell? ⟨Wd.heap.size, e, none⟩ = some (.string tone) := by rw [hWn]; exact ((Blk.new (w := Wd) (cs := [.string ⟨#[102, 108, 117, 116, 101]⟩, .string ⟨#[114, 101, 101, 100]⟩])).cell e).trans HTN.out
        have HEW6 := Lib.hid (HEWd.out.below hk)
        have hSn : W6.cell? ⟨w.heap.size + 1 + 1, 0, none⟩ = some (.slice A k cap) ∧ W6.cell? ⟨wr.heap.size, 0, none⟩ = some (.int .u8 dv) ∧ W6.cell? ⟨wr.heap.size, 1, none⟩ = some (.int .u8 tn) ∧ W6.cell? ⟨wr.heap.size, 2, none⟩ = some (.int .u8 ft) ∧ W6.cell? ⟨wr.heap.size, 4, none⟩ = some (.int .u8 ks) := by
          obtain ⟨s0, s1, s2, s3, s4⟩ := hS
          have hcc := (bcell hk).1
          exact ⟨(hcc _ _ (by omega)).trans s0, (hcc _ _ (by omega)).trans s1, (hcc _ _ (by omega)).trans s2, (hcc _ _ (by omega)).trans s3, (hcc _ _ (by omega)).trans s4⟩
        refine hK.out _ _ (fun _ => hSn) ?_
        try simp only [Act.put]
        replace hS := And.intro hSn hn
        clear hK K hk hSn hn hWn
        refine wpAnyE_more (S' := fun w' => (w'.cell? ⟨w.heap.size + 1 + 1, 0, none⟩ = some (.slice A k cap) ∧ w'.cell? ⟨wr.heap.size, 0, none⟩ = some (.int .u8 dv) ∧ w'.cell? ⟨wr.heap.size, 1, none⟩ = some (.int .u8 tn) ∧ w'.cell? ⟨wr.heap.size, 2, none⟩ = some (.int .u8 ft) ∧ w'.cell? ⟨wr.heap.size, 4, none⟩ = some (.int .u8 ks)) ∧ w'.cell? ⟨Wd.heap.size, e, none⟩ = some (.string tone)) (fun _ h => h.1) _ _ _ _ ?_
        refine wpAnyE_tk (i := 16) (v := ?_) #[true, true, true, true, true, false, false, false, true, true, true, true, true, true, true, true, true, false, false, true, true, true, false, false, true, true, true, true, true, true, true, true, false, false, false, false, false] (some 43) rfl rfl (by kernel_rfl) (by kernel_rfl) (by kernel_rfl) (by kernel_rfl) (by kernel_rfl) (fun _ _ _ h => h) (Or.inl ⟨by rfl, ?_⟩) hS ?_
        rotate_left
        · (intro w hSw; (try dsimp only at hSw); go_simp; all_goals with_reducible rfl)
        simp only [Act.put]
        refine wpAnyE_tk (i := 17) (v := ?_) #[true, true, true, true, true, false, false, false, true, true, true, true, true, true, true, true, true, true, false, true, true, true, false, false, true, true, true, true, true, true, true, true, false, false, false, false, false] (some 44) rfl rfl (by kernel_rfl) (by kernel_rfl) (by kernel_rfl) (by kernel_rfl) (by kernel_rfl) (fun _ _ _ h => h) (Or.inl ⟨by rfl, ?_⟩) hS ?_
        rotate_left
        · (intro w hSw; (try dsimp only at hSw); go_simp; all_goals with_reducible rfl)
        simp only [Act.put]
        refine wpAnyE_ready (rs := [5, 18]) (by kernel_rfl) (by simp) ?_
        refine AllE.cons' (o := _) #[true, true, true, true, true, true, false, false, true, true, true, true, true, true, true, true, true, true, false, true, true, true, false, false, true, true, true, true, true, true, true, true, false, false, false, false, false] rfl (by kernel_rfl) (fun K hK => ?_) (AllE.cons' (o := _) #[true, true, true, true, true, false, false, false, true, true, true, true, true, true, true, true, true, true, true, true, true, true, false, false, true, true, true, true, true, true, true, true, false, false, false, false, false] rfl (by kernel_rfl) (fun K hK => ?_) AllE.nil)
        · skip
          go_simp
          obtain ⟨W7, hWn⟩ : ∃ W, W = W6.alloc (.cells #[.int .u8 (48 + (k : Int))] 5) := ⟨_, rfl⟩
          rw [← hWn]
          have hk : Below W6.heap.size W6 W7 := by rw [hWn]; exact bw_new (Below.refl _ _) _
          have hlW7 : W6.heap.size < W7.heap.size := by rw [hWn]; simp
          have hn : W7.cell? ⟨W6.heap.size, 0, none⟩ = some (.int .u8 (48 + (k : Int))) := by rw [hWn]; exact (Blk.new (w := W6) (cs := [.int .u8 (48 + (k : Int))])).cell 0
          have HEW7 := Lib.hid (HEW6.out.below hk)
          have hSn : (W7.cell? ⟨w.heap.size + 1 + 1, 0, none⟩ = some (.slice A k cap) ∧ W7.cell? ⟨wr.heap.size, 0, none⟩ = some (.int .u8 dv) ∧ W7.cell? ⟨wr.heap.size, 1, none⟩ = some (.int .u8 tn) ∧ W7.cell? ⟨wr.heap.size, 2, none⟩ = some (.int .u8 ft) ∧ W7.cell? ⟨wr.heap.size, 4, none⟩ = some (.int .u8 ks)) ∧ W7.cell? ⟨Wd.heap.size, e, none⟩ = some (.string tone) := by
            obtain ⟨⟨s0, s1, s2, s3, s4⟩, s5⟩ := hS
            have hcc := (bcell hk).1
            exact ⟨⟨(hcc _ _ (by omega)).trans s0, (hcc _ _ (by omega)).trans s1, (hcc _ _ (by omega)).trans s2, (hcc _ _ (by omega)).trans s3, (hcc _ _ (by omega)).trans s4⟩, (hcc _ _ (by omega)).trans s5⟩
          refine hK.out _ _ (fun _ => hSn) ?_
          try simp only [Act.put]
          replace hS := And.intro hSn hn
          clear hK K hk hSn hn hWn
          refine wpAnyE_more (S' := fun w' => ((w'.cell? ⟨w.heap.size + 1 + 1, 0, none⟩ = some (.slice A k cap) ∧ w'.cell? ⟨wr.heap.size, 0, none⟩ = some (.int .u8 dv) ∧ w'.cell? ⟨wr.heap.size, 1, none⟩ = some (.int .u8 tn) ∧ w'.cell? ⟨wr.heap.size, 2, none⟩ = some (.int .u8 ft) ∧ w'.cell? ⟨wr.heap.size, 4, none⟩ = some (.int .u8 ks)) ∧ w'.cell? ⟨Wd.heap.size, e, none⟩ = some (.string tone)) ∧ w'.cell? ⟨W6.heap.size, 0, none⟩ = some (.int .u8 (48 + (k : Int)))) (fun _ h => h.1) _ _ _ _ ?_
          refine wpAnyE_tk (i := 6) (v := ?_) #[true, true, true, true, true, true, true, false, true, true, true, true, true, true, true, true, true, true, false, true, true, true, false, false, true, true, true, true, true, true, true, true, false, false, false, false, false] (some 33) rfl rfl (by kernel_rfl) (by kernel_rfl) (by kernel_rfl) (by kernel_rfl) (by kernel_rfl) (fun _ _ _ h => h) (Or.inl ⟨by rfl, ?_⟩) hS ?_
          rotate_left
          · (intro w hSw; (try dsimp only at hSw); go_simp; all_goals with_reducible rfl)
          simp only [Act.put]
          refine wpAnyE_tk (i := 7) (v := ?_) #[true, true, true, true, true, true, true, true, true, true, true, true, true, true, true, true, true, true, false, true, true, true, false, false, true, true, true, true, true, true, true, true, false, false, false, false, false] (some 34) rfl rfl (by kernel_rfl) (by kernel_rfl) (by kernel_rfl) (by kernel_rfl) (by kernel_rfl) (fun _ _ _ h => h) (Or.inl ⟨by rfl, ?_⟩) hS ?_
          rotate_left
          · (intro w hSw; (try dsimp only at hSw); go_simp; all_goals with_reducible rfl)
          simp only [Act.put]
          refine wpAnyE_ready (rs := [18]) (by kernel_rfl) (by simp) ?_
          refine AllE.cons' (o := _) #[true, true, true, true, true, true, true, true, true, true, true, true, true, true, true, true, true, true, true, true, true, true, false, false, true, true, true, true, true, true, true, true, false, false, false, false, false] rfl (by kernel_rfl) (fun K hK => ?_) AllE.nil
          go_simp
          refine (pitches_any _).mono ?_
          rintro e' W8 ⟨g8, rfl, hg, hblk, hk⟩
          dsimp only
          have hlW8 : W7.heap.size ≤ W8.heap.size := hk.size
          have hgW8 : g8 < W8.heap.size := hblk.lt
          have hgW8b : W7.heap.size ≤ g8 := hg
          have hn : W8.cell? ⟨g8, f * 2, none⟩ = some (.int .i64 (pitN f : Nat)) ∧ W8.cell? ⟨g8, f * 2 + 1, none⟩ = some (.int .i64 (pitD f : Nat)) := ⟨(hblk.cell _).trans HPT.out.1, (hblk.cell _).trans HPT.out.2⟩
          have HEW8 := Lib.hid (HEW7.out.below hk)
          have hSn : ((W8.cell? ⟨w.heap.size + 1 + 1, 0, none⟩ = some (.slice A k cap) ∧ W8.cell? ⟨wr.heap.size, 0, none⟩ = some (.int .u8 dv) ∧ W8.cell? ⟨wr.heap.size, 1, none⟩ = some (.int .u8 tn) ∧ W8.cell? ⟨wr.heap.size, 2, none⟩ = some (.int .u8 ft) ∧ W8.cell? ⟨wr.heap.size, 4, none⟩ = some (.int .u8 ks)) ∧ W8.cell? ⟨Wd.heap.size, e, none⟩ = some (.string tone)) ∧ W8.cell? ⟨W6.heap.size, 0, none⟩ = some (.int .u8 (48 + (k : Int))) := by
            obtain ⟨⟨⟨s0, s1, s2, s3, s4⟩, s5⟩, s6⟩ := hS
            have hcc := (bcell hk).1
            exact ⟨⟨⟨(hcc _ _ (by omega)).trans s0, (hcc _ _ (by omega)).trans s1, (hcc _ _ (by omega)).trans s2, (hcc _ _ (by omega)).trans s3, (hcc _ _ (by omega)).trans s4⟩, (hcc _ _ (by omega)).trans s5⟩, (hcc _ _ (by omega)).trans s6⟩
          refine hK.out _ _ (fun _ => hSn) ?_
          try simp only [Act.put]
          replace hS := And.intro hSn hn
          clear hK K hk hSn hn hg hblk
          refine wpAnyE_more (S' := fun w' => (((w'.cell? ⟨w.heap.size + 1 + 1, 0, none⟩ = some (.slice A k cap) ∧ w'.cell? ⟨wr.heap.size, 0, none⟩ = some (.int .u8 dv) ∧ w'.cell? ⟨wr.heap.size, 1, none⟩ = some (.int .u8 tn) ∧ w'.cell? ⟨wr.heap.size, 2, none⟩ = some (.int .u8 ft) ∧ w'.cell? ⟨wr.heap.size, 4, none⟩ = some (.int .u8 ks)) ∧ w'.cell? ⟨Wd.heap.size, e, none⟩ = some (.string tone)) ∧ w'.cell? ⟨W6.heap.size, 0, none⟩ = some (.int .u8 (48 + (k : Int)))) ∧ w'.cell? ⟨g8, f * 2, none⟩ = some (.int .i64 (pitN f : Nat)) ∧ w'.cell? ⟨g8, f * 2 + 1, none⟩ = some (.int .i64 (pitD f : Nat))) (fun _ h => h.1) _ _ _ _ ?_
          refine wpAnyE_tk (i := 22) (v := ?_) #[true, true, true, true, true, true, true, true, true, true, true, true, true, true, true, true, true, true, true, true, true, true, true, false, true, true, true, true, true, true, true, true, false, false, false, false, false] (some 49) rfl rfl (by kernel_rfl) (by kernel_rfl) (by kernel_rfl) (by kernel_rfl) (by kernel_rfl) (fun _ _ _ h => h) (Or.inl ⟨by rfl, ?_⟩) hS ?_
          rotate_left
          · (intro w hSw; (try dsimp only at hSw); go_simp; all_goals with_reducible rfl)
          simp only [Act.put]
          refine wpAnyE_tk (i := 23) (v := ?_) #[true, true, true, true, true, true, true, true, true, true, true, true, true, true, true, true, true, true, true, true, true, true, true, true, true, true, true, true, true, true, true, true, false, false, false, false, false] (some 50) rfl rfl (by kernel_rfl) (by kernel_rfl) (by kernel_rfl) (by kernel_rfl) (by kernel_rfl) (fun _ _ _ h => h) (Or.inl ⟨by rfl, ?_⟩) hS ?_
          rotate_left
          · (intro w hSw; (try dsimp only at hSw); go_simp; all_goals with_reducible rfl)
          simp only [Act.put]
          refine wpAnyE_tk (i := 32) (v := ?_) #[true, true, true, true, true, true, true, true, true, true, true, true, true, true, true, true, true, true, true, true, true, true, true, true, true, true, true, true, true, true, true, true, true, false, false, false, false] (some 59) rfl rfl (by kernel_rfl) (by kernel_rfl) (by kernel_rfl) (by kernel_rfl) (by kernel_rfl) (fun _ _ _ h => h) (Or.inl ⟨by rfl, ?_⟩) hS ?_
          rotate_left
          · (intro w hSw; (try dsimp only at hSw); go_simp; all_goals with_reducible rfl)
          simp only [Act.put]
          refine wpAnyE_ready (rs := [33]) (by kernel_rfl) (by simp) ?_
          refine AllE.cons' (o := _) #[true, true, true, true, true, true, true, true, true, true, true, true, true, true, true, true, true, true, true, true, true, true, true, true, true, true, true, true, true, true, true, true, true, true, false, false, false] rfl (by kernel_rfl) (fun K hK => ?_) AllE.nil
          go_simp
          obtain ⟨Wu, hWn⟩ : ∃ W, W = W8.alloc (.cells #[.string (⟨#[119]⟩ ++ sd), .int .i64 r0, .string tone, .int .i64 (pitN f : Nat), .int .i64 (pitD f : Nat), .int .i64 (36 + (q : Int)), .int .i64 (36 + (q : Int) + (h : Int))] 51) := ⟨_, rfl⟩
          rw [← hWn]
          have hk : Below W8.heap.size W8 Wu := by rw [hWn]; exact bw_new (Below.refl _ _) _
          have hlu : Wu.heap.size = W8.heap.size + 1 := by rw [hWn]; simp
          have hnew := World.news_of_block (cs := #[.string (⟨#[119]⟩ ++ sd), .int .i64 r0, .string tone, .int .i64 (pitN f : Nat), .int .i64 (pitD f : Nat), .int .i64 (36 + (q : Int)), .int .i64 (36 + (q : Int) + (h : Int))]) (t := 51) (fr := (0, 0)) (heap_alloc_new W8 (.cells #[.string (⟨#[119]⟩ ++ sd), .int .i64 r0, .string tone, .int .i64 (pitN f : Nat), .int .i64 (pitD f : Nat), .int .i64 (36 + (q : Int)), .int .i64 (36 + (q : Int) + (h : Int))] 51))
          rw [← hWn] at hnew
          have HEWu := Lib.hid (HEW8.out.below hk)
          have hSn : (((Wu.cell? ⟨w.heap.size + 1 + 1, 0, none⟩ = some (.slice A k cap) ∧ Wu.cell? ⟨wr.heap.size, 0, none⟩ = some (.int .u8 dv) ∧ Wu.cell? ⟨wr.heap.size, 1, none⟩ = some (.int .u8 tn) ∧ Wu.cell? ⟨wr.heap.size, 2, none⟩ = some (.int .u8 ft) ∧ Wu.cell? ⟨wr.heap.size, 4, none⟩ = some (.int .u8 ks)) ∧ Wu.cell? ⟨Wd.heap.size, e, none⟩ = some (.string tone)) ∧ Wu.cell? ⟨W6.heap.size, 0, none⟩ = some (.int .u8 (48 + (k : Int)))) ∧ Wu.cell? ⟨g8, f * 2, none⟩ = some (.int .i64 (pitN f : Nat)) ∧ Wu.cell? ⟨g8, f * 2 + 1, none⟩ = some (.int .i64 (pitD f : Nat)) := by
            obtain ⟨⟨⟨⟨s0, s1, s2, s3, s4⟩, s5⟩, s6⟩, s7, s8⟩ := hS
            have hcc := (bcell hk).1
            exact ⟨⟨⟨⟨(hcc _ _ (by omega)).trans s0, (hcc _ _ (by omega)).trans s1, (hcc _ _ (by omega)).trans s2, (hcc _ _ (by omega)).trans s3, (hcc _ _ (by omega)).trans s4⟩, (hcc _ _ (by omega)).trans s5⟩, (hcc _ _ (by omega)).trans s6⟩, (hcc _ _ (by omega)).trans s7, (hcc _ _ (by omega)).trans s8⟩
          refine hK.out _ _ (fun _ => hSn) ?_
          try simp only [Act.put]
          replace hS := hSn
          clear hK K hk hSn hWn
          refine wpAnyE_ready (rs := [34]) (by kernel_rfl) (by simp) ?_
          refine AllE.cons' (o := _) #[true, true, true, true, true, true, true, true, true, true, true, true, true, true, true, true, true, true, true, true, true, true, true, true, true, true, true, true, true, true, true, true, true, true, true, false, false] rfl (by kernel_rfl) (fun K hK => ?_) AllE.nil
          refine step_append_lies _ (by rfl) _ _ _ (by rfl) (w.heap.size + 3) 51 i0 (.agg #[.string ⟨#[]⟩, .int .i64 0, .string ⟨#[]⟩, .int .i64 0, .int .i64 0, .int .i64 0, .int .i64 0]) 7 72 Tryz.underlying27 HHI.out HZ0.out HZ1.out HZ2.out rfl (by decide) (.slice A k cap) k (wsCells (mkWs 0 (L.take k))) (by rfl) HEWu.out.1
            ⟨W8.heap.size, 0, none⟩ 1 1 [.string (⟨#[119]⟩ ++ sd), .int .i64 r0, .string tone, .int .i64 (pitN f : Nat), .int .i64 (pitD f : Nat), .int .i64 (36 + (q : Int)), .int .i64 (36 + (q : Int) + (h : Int))] (by rfl) (by rfl) hnew (by simp [Value.oneCell'])
            (by omega) (by unfold maxLen; omega) (by omega) (by omega) Wu.heap.size rfl ?_
          intro g cap2 Wv hown hgrow hat hlt
          have hSn : (((Wv.cell? ⟨w.heap.size + 1 + 1, 0, none⟩ = some (.slice A k cap) ∧ Wv.cell? ⟨wr.heap.size, 0, none⟩ = some (.int .u8 dv) ∧ Wv.cell? ⟨wr.heap.size, 1, none⟩ = some (.int .u8 tn) ∧ Wv.cell? ⟨wr.heap.size, 2, none⟩ = some (.int .u8 ft) ∧ Wv.cell? ⟨wr.heap.size, 4, none⟩ = some (.int .u8 ks)) ∧ Wv.cell? ⟨Wd.heap.size, e, none⟩ = some (.string tone)) ∧ Wv.cell? ⟨W6.heap.size, 0, none⟩ = some (.int .u8 (48 + (k : Int)))) ∧ Wv.cell? ⟨g8, f * 2, none⟩ = some (.int .i64 (pitN f : Nat)) ∧ Wv.cell? ⟨g8, f * 2 + 1, none⟩ = some (.int .i64 (pitD f : Nat)) := by
            obtain ⟨⟨⟨⟨s0, s1, s2, s3, s4⟩, s5⟩, s6⟩, s7, s8⟩ := hS
            have hcc : ∀ b o, b < Wu.heap.size → (b = w.heap.size + 1 + 1 ∨ wr.heap.size ≤ b) → Wv.cell? ⟨b, o, none⟩ = Wu.cell? ⟨b, o, none⟩ := fun b o h1 h2 => World.cell?_of_block (hgrow.block b h1 (fun e => by
              have ha := (HEWu.out.1.lt _ e.symm).1
              have hb := (HRL.out.1.lt _ e.symm).2
              omega))
            exact ⟨⟨⟨⟨(hcc _ _ (by omega) (by omega)).trans s0, (hcc _ _ (by omega) (by omega)).trans s1, (hcc _ _ (by omega) (by omega)).trans s2, (hcc _ _ (by omega) (by omega)).trans s3, (hcc _ _ (by omega) (by omega)).trans s4⟩, (hcc _ _ (by omega) (by omega)).trans s5⟩, (hcc _ _ (by omega) (by omega)).trans s6⟩, (hcc _ _ (by omega) (by omega)).trans s7, (hcc _ _ (by omega) (by omega)).trans s8⟩
          have HF := Lib.hid (mk_grown HEWu.out hown hgrow hat rfl HCELL.out HTK.out)
          obtain ⟨q0, q1⟩ := HF.out.2.2.1.two
          have q2 := HF.out.2.2.1.frozen 0
          refine hK.out _ _ (fun _ => hSn) ?_
          replace hS := hSn
          clear hK K hSn hown hgrow hat hlt
          try simp only [Act.put]
          refine wpAnyE_tk (i := 35) (v := ?_) #[true, true, true, true, true, true, true, true, true, true, true, true, true, true, true, true, true, true, true, true, true, true, true, true, true, true, true, true, true, true, true, true, true, true, true, true, false] (some 62) rfl rfl (by kernel_rfl) (by kernel_rfl) (by kernel_rfl) (by kernel_rfl) (by kernel_rfl) (fun _ _ _ h => h) (Or.inl ⟨by rfl, ?_⟩) hS ?_
          rotate_left
          · (intro w hSw; (try dsimp only at hSw); go_simp; all_goals with_reducible rfl)
          simp only [Act.put]
          refine wpAnyE_ready (rs := [36]) (by kernel_rfl) (by simp) ?_
          refine AllE.cons' (o := _) #[true, true, true, true, true, true, true, true, true, true, true, true, true, true, true, true, true, true, true, true, true, true, true, true, true, true, true, true, true, true, true, true, true, true, true, true, true] rfl (by kernel_rfl) (fun K hK => ?_) AllE.nil
          go_simp
          refine hK.out _ _ (fun h => absurd rfl h) ?_
          clear hK K hS q0 q1 q2
          try simp only [Act.put]
          refine wpAnyE_done (by kernel_rfl) ?_ _
          have HF2 := Lib.hid (mk_stored HF.out)
          go_wp2
          go_roundw
          case rel => exact ⟨k + 1, _, _, by omega, by go_num, HF2.out⟩
          case measure => simp [intOf]; omega
        · skip
          go_simp
          refine (pitches_any _).mono ?_
          rintro e' W9 ⟨g9, rfl, hg, hblk, hk⟩
          dsimp only
          have hlW9 : W6.heap.size ≤ W9.heap.size := hk.size
          have hgW9 : g9 < W9.heap.size := hblk.lt
          have hgW9b : W6.heap.size ≤ g9 := hg
          have hn : W9.cell? ⟨g9, f * 2, none⟩ = some (.int .i64 (pitN f : Nat)) ∧ W9.cell? ⟨g9, f * 2 + 1, none⟩ = some (.int .i64 (pitD f : Nat)) := ⟨(hblk.cell _).trans HPT.out.1, (hblk.cell _).trans HPT.out.2⟩
          have HEW9 := Lib.hid (HEW6.out.below hk)
          have hSn : (W9.cell? ⟨w.heap.size + 1 + 1, 0, none⟩ = some (.slice A k cap) ∧ W9.cell? ⟨wr.heap.size, 0, none⟩ = some (.int .u8 dv) ∧ W9.cell? ⟨wr.heap.size, 1, none⟩ = some (.int .u8 tn) ∧ W9.cell? ⟨wr.heap.size, 2, none⟩ = some (.int .u8 ft) ∧ W9.cell? ⟨wr.heap.size, 4, none⟩ = some (.int .u8 ks)) ∧ W9.cell? ⟨Wd.heap.size, e, none⟩ = some (.string tone) := by
            obtain ⟨⟨s0, s1, s2, s3, s4⟩, s5⟩ := hS
            have hcc := (bcell hk).1
            exact ⟨⟨(hcc _ _ (by omega)).trans s0, (hcc _ _ (by omega)).trans s1, (hcc _ _ (by omega)).trans s2, (hcc _ _ (by omega)).trans s3, (hcc _ _ (by omega)).trans s4⟩, (hcc _ _ (by omega)).trans s5⟩
          refine hK.out _ _ (fun _ => hSn) ?_
          try simp only [Act.put]
          replace hS := And.intro hSn hn
          clear hK K hk hSn hn hg hblk
          refine wpAnyE_more (S' := fun w' => ((w'.cell? ⟨w.heap.size + 1 + 1, 0, none⟩ = some (.slice A k cap) ∧ w'.cell? ⟨wr.heap.size, 0, none⟩ = some (.int .u8 dv) ∧ w'.cell? ⟨wr.heap.size, 1, none⟩ = some (.int .u8 tn) ∧ w'.cell? ⟨wr.heap.size, 2, none⟩ = some (.int .u8 ft) ∧ w'.cell? ⟨wr.heap.size, 4, none⟩ = some (.int .u8 ks)) ∧ w'.cell? ⟨Wd.heap.size, e, none⟩ = some (.string tone)) ∧ w'.cell? ⟨g9, f * 2, none⟩ = some (.int .i64 (pitN f : Nat)) ∧ w'.cell? ⟨g9, f * 2 + 1, none⟩ = some (.int .i64 (pitD f : Nat))) (fun _ h => h.1) _ _ _ _ ?_
          refine wpAnyE_tk (i := 22) (v := ?_) #[true, true, true, true, true, false, false, false, true, true, true, true, true, true, true, true, true, true, true, true, true, true, true, false, true, true, true, true, true, true, true, true, false, false, false, false, false] (some 49) rfl rfl (by kernel_rfl) (by kernel_rfl) (by kernel_rfl) (by kernel_rfl) (by kernel_rfl) (fun _ _ _ h => h) (Or.inl ⟨by rfl, ?_⟩) hS ?_
          rotate_left
          · (intro w hSw; (try dsimp only at hSw); go_simp; all_goals with_reducible rfl)
          simp only [Act.put]
          refine wpAnyE_tk (i := 23) (v := ?_) #[true, true, true, true, true, false, false, false, true, true, true, true, true, true, true, true, true, true, true, true, true, true, true, true, true, true, true, true, true, true, true, true, false, false, false, false, false] (some 50) rfl rfl (by kernel_rfl) (by kernel_rfl) (by kernel_rfl) (by kernel_rfl) (by kernel_rfl) (fun _ _ _ h => h) (Or.inl ⟨by rfl, ?_⟩) hS ?_
          rotate_left
          · (intro w hSw; (try dsimp only at hSw); go_simp; all_goals with_reducible rfl)
          simp only [Act.put]
          refine wpAnyE_ready (rs := [5]) (by kernel_rfl) (by simp) ?_
          refine AllE.cons' (o := _) #[true, true, true, true, true, true, false, false, true, true, true, true, true, true, true, true, true, true, true, true, true, true, true, true, true, true, true, true, true, true, true, true, false, false, false, false, false] rfl (by kernel_rfl) (fun K hK => ?_) AllE.nil
          go_simp
          obtain ⟨W10, hWn⟩ : ∃ W, W = W9.alloc (.cells #[.int .u8 (48 + (k : Int))] 5) := ⟨_, rfl⟩
          rw [← hWn]
          have hk : Below W9.heap.size W9 W10 := by rw [hWn]; exact bw_new (Below.refl _ _) _
          have hlW10 : W9.heap.size < W10.heap.size := by rw [hWn]; simp
          have hn : W10.cell? ⟨W9.heap.size, 0, none⟩ = some (.int .u8 (48 + (k : Int))) := by rw [hWn]; exact (Blk.new (w := W9) (cs := [.int .u8 (48 + (k : Int))])).cell 0
          have HEW10 := Lib.hid (HEW9.out.below hk)
          have hSn : ((W10.cell? ⟨w.heap.size + 1 + 1, 0, none⟩ = some (.slice A k cap) ∧ W10.cell? ⟨wr.heap.size, 0, none⟩ = some (.int .u8 dv) ∧ W10.cell? ⟨wr.heap.size, 1, none⟩ = some (.int .u8 tn) ∧ W10.cell? ⟨wr.heap.size, 2, none⟩ = some (.int .u8 ft) ∧ W10.cell? ⟨wr.heap.size, 4, none⟩ = some (.int .u8 ks)) ∧ W10.cell? ⟨Wd.heap.size, e, none⟩ = some (.string tone)) ∧ W10.cell? ⟨g9, f * 2, none⟩ = some (.int .i64 (pitN f : Nat)) ∧ W10.cell? ⟨g9, f * 2 + 1, none⟩ = some (.int .i64 (pitD f : Nat)) := by
            obtain ⟨⟨⟨s0, s1, s2, s3, s4⟩, s5⟩, s6, s7⟩ := hS
            have hcc := (bcell hk).1
            exact ⟨⟨⟨(hcc _ _ (by omega)).trans s0, (hcc _ _ (by omega)).trans s1, (hcc _ _ (by omega)).trans s2, (hcc _ _ (by omega)).trans s3, (hcc _ _ (by omega)).trans s4⟩, (hcc _ _ (by omega)).trans s5⟩, (hcc _ _ (by omega)).trans s6, (hcc _ _ (by omega)).trans s7⟩
          refine hK.out _ _ (fun _ => hSn) ?_
          try simp only [Act.put]
          replace hS := And.intro hSn hn
          clear hK K hk hSn hn hWn
          refine wpAnyE_more (S' := fun w' => (((w'.cell? ⟨w.heap.size + 1 + 1, 0, none⟩ = some (.slice A k cap) ∧ w'.cell? ⟨wr.heap.size, 0, none⟩ = some (.int .u8 dv) ∧ w'.cell? ⟨wr.heap.size, 1, none⟩ = some (.int .u8 tn) ∧ w'.cell? ⟨wr.heap.size, 2, none⟩ = some (.int .u8 ft) ∧ w'.cell? ⟨wr.heap.size, 4, none⟩ = some (.int .u8 ks)) ∧ w'.cell? ⟨Wd.heap.size, e, none⟩ = some (.string tone)) ∧ w'.cell? ⟨g9, f * 2, none⟩ = some (.int .i64 (pitN f : Nat)) ∧ w'.cell? ⟨g9, f * 2 + 1, none⟩ = some (.int .i64 (pitD f : Nat))) ∧ w'.cell? ⟨W9.heap.size, 0, none⟩ = some (.int .u8 (48 + (k : Int)))) (fun _ h => h.1) _ _ _ _ ?_
          refine wpAnyE_tk (i := 6) (v := ?_) #[true, true, true, true, true, true, true, false, true, true, true, true, true, true, true, true, true, true, true, true, true, true, true, true, true, true, true, true, true, true, true, true, false, false, false, false, false] (some 33) rfl rfl (by kernel_rfl) (by kernel_rfl) (by kernel_rfl) (by kernel_rfl) (by kernel_rfl) (fun _ _ _ h => h) (Or.inl ⟨by rfl, ?_⟩) hS ?_
          rotate_left
          · (intro w hSw; (try dsimp only at hSw); go_simp; all_goals with_reducible rfl)
          simp only [Act.put]
          refine wpAnyE_tk (i := 7) (v := ?_) #[true, true, true, true, true, true, true, true, true, true, true, true, true, true, true, true, true, true, true, true, true, true, true, true, true, true, true, true, true, true, true, true, false, false, false, false, false] (some 34) rfl rfl (by kernel_rfl) (by kernel_rfl) (by kernel_rfl) (by kernel_rfl) (by kernel_rfl) (fun _ _ _ h => h) (Or.inl ⟨by rfl, ?_⟩) hS ?_
          rotate_left
          · (intro w hSw; (try dsimp only at hSw); go_simp; all_goals with_reducible rfl)
          simp only [Act.put]
          refine wpAnyE_tk (i := 32) (v := ?_) #[true, true, true, true, true, true, true, true, true, true, true, true, true, true, true, true, true, true, true, true, true, true, true, true, true, true, true, true, true, true, true, true, true, false, false, false, false] (some 59) rfl rfl (by kernel_rfl) (by kernel_rfl) (by kernel_rfl) (by kernel_rfl) (by kernel_rfl) (fun _ _ _ h => h) (Or.inl ⟨by rfl, ?_⟩) hS ?_
          rotate_left
          · (intro w hSw; (try dsimp only at hSw); go_simp; all_goals with_reducible rfl)
          simp only [Act.put]
          refine wpAnyE_ready (rs := [33]) (by kernel_rfl) (by simp) ?_
          refine AllE.cons' (o := _) #[true, true, true, true, true, true, true, true, true, true, true, true, true, true, true, true, true, true, true, true, true, true, true, true, true, true, true, true, true, true, true, true, true, true, false, false, false] rfl (by kernel_rfl) (fun K hK => ?_) AllE.nil
          go_simp
          obtain ⟨Wu, hWn⟩ : ∃ W, W = W10.alloc (.cells #[.string (⟨#[119]⟩ ++ sd), .int .i64 r0, .string tone, .int .i64 (pitN f : Nat), .int .i64 (pitD f : Nat), .int .i64 (36 + (q : Int)), .int .i64 (36 + (q : Int) + (h : Int))] 51) := ⟨_, rfl⟩
          rw [← hWn]
          have hk : Below W10.heap.size W10 Wu := by rw [hWn]; exact bw_new (Below.refl _ _) _
          have hlu : Wu.heap.size = W10.heap.size + 1 := by rw [hWn]; simp
          have hnew := World.news_of_block (cs := #[.string (⟨#[119]⟩ ++ sd), .int .i64 r0, .string tone, .int .i64 (pitN f : Nat), .int .i64 (pitD f : Nat), .int .i64 (36 + (q : Int)), .int .i64 (36 + (q : Int) + (h : Int))]) (t := 51) (fr := (0, 0)) (heap_alloc_new W10 (.cells #[.string (⟨#[119]⟩ ++ sd), .int .i64 r0, .string tone, .int .i64 (pitN f : Nat), .int .i64 (pitD f : Nat), .int .i64 (36 + (q : Int)), .int .i64 (36 + (q : Int) + (h : Int))] 51))
          rw [← hWn] at hnew
          have HEWu := Lib.hid (HEW10.out.below hk)
          have hSn : (((Wu.cell? ⟨w.heap.size + 1 + 1, 0, none⟩ = some (.slice A k cap) ∧ Wu.cell? ⟨wr.heap.size, 0, none⟩ = some (.int .u8 dv) ∧ Wu.cell? ⟨wr.heap.size, 1, none⟩ = some (.int .u8 tn) ∧ Wu.cell? ⟨wr.heap.size, 2, none⟩ = some (.int .u8 ft) ∧ Wu.cell? ⟨wr.heap.size, 4, none⟩ = some (.int .u8 ks)) ∧ Wu.cell? ⟨Wd.heap.size, e, none⟩ = some (.string tone)) ∧ Wu.cell? ⟨g9, f * 2, none⟩ = some (.int .i64 (pitN f : Nat)) ∧ Wu.cell? ⟨g9, f * 2 + 1, none⟩ = some (.int .i64 (pitD f : Nat))) ∧ Wu.cell? ⟨W9.heap.size, 0, none⟩ = some (.int .u8 (48 + (k : Int))) := by
            obtain ⟨⟨⟨⟨s0, s1, s2, s3, s4⟩, s5⟩, s6, s7⟩, s8⟩ := hS
            have hcc := (bcell hk).1
            exact ⟨⟨⟨⟨(hcc _ _ (by omega)).trans s0, (hcc _ _ (by omega)).trans s1, (hcc _ _ (by omega)).trans s2, (hcc _ _ (by omega)).trans s3, (hcc _ _ (by omega)).trans s4⟩, (hcc _ _ (by omega)).trans s5⟩, (hcc _ _ (by omega)).trans s6, (hcc _ _ (by omega)).trans s7⟩, (hcc _ _ (by omega)).trans s8⟩
          refine hK.out _ _ (fun _ => hSn) ?_
          try simp only [Act.put]
          replace hS := hSn
          clear hK K hk hSn hWn
          refine wpAnyE_ready (rs := [34]) (by kernel_rfl) (by simp) ?_
          refine AllE.cons' (o := _) #[true, true, true, true, true, true, true, true, true, true, true, true, true, true, true, true, true, true, true, true, true, true, true, true, true, true, true, true, true, true, true, true, true, true, true, false, false] rfl (by kernel_rfl) (fun K hK => ?_) AllE.nil
          refine step_append_lies _ (by rfl) _ _ _ (by rfl) (w.heap.size + 3) 51 i0 (.agg #[.string ⟨#[]⟩, .int .i64 0, .string ⟨#[]⟩, .int .i64 0, .int .i64 0, .int .i64 0, .int .i64 0]) 7 72 Tryz.underlying27 HHI.out HZ0.out HZ1.out HZ2.out rfl (by decide) (.slice A k cap) k (wsCells (mkWs 0 (L.take k))) (by rfl) HEWu.out.1
            ⟨W10.heap.size, 0, none⟩ 1 1 [.string (⟨#[119]⟩ ++ sd), .int .i64 r0, .string tone, .int .i64 (pitN f : Nat), .int .i64 (pitD f : Nat), .int .i64 (36 + (q : Int)), .int .i64 (36 + (q : Int) + (h : Int))] (by rfl) (by rfl) hnew (by simp [Value.oneCell'])
            (by omega) (by unfold maxLen; omega) (by omega) (by omega) Wu.heap.size rfl ?_
          intro g cap2 Wv hown hgrow hat hlt
          have hSn : (((Wv.cell? ⟨w.heap.size + 1 + 1, 0, none⟩ = some (.slice A k cap) ∧ Wv.cell? ⟨wr.heap.size, 0, none⟩ = some (.int .u8 dv) ∧ Wv.cell? ⟨wr.heap.size, 1, none⟩ = some (.int .u8 tn) ∧ Wv.cell? ⟨wr.heap.size, 2, none⟩ = some (.int .u8 ft) ∧ Wv.cell? ⟨wr.heap.size, 4, none⟩ = some (.int .u8 ks)) ∧ Wv.cell? ⟨Wd.heap.size, e, none⟩ = some (.string tone)) ∧ Wv.cell? ⟨g9, f * 2, none⟩ = some (.int .i64 (pitN f : Nat)) ∧ Wv.cell? ⟨g9, f * 2 + 1, none⟩ = some (.int .i64 (pitD f : Nat))) ∧ Wv.cell? ⟨W9.heap.size, 0, none⟩ = some (.int .u8 (48 + (k : Int))) := by
            obtain ⟨⟨⟨⟨s0, s1, s2, s3, s4⟩, s5⟩, s6, s7⟩, s8⟩ := hS
            have hcc : ∀ b o, b < Wu.heap.size → (b = w.heap.size + 1 + 1 ∨ wr.heap.size ≤ b) → Wv.cell? ⟨b, o, none⟩ = Wu.cell? ⟨b, o, none⟩ := fun b o h1 h2 => World.cell?_of_block (hgrow.block b h1 (fun e => by
              have ha := (HEWu.out.1.lt _ e.symm).1
              have hb := (HRL.out.1.lt _ e.symm).2
              omega))
            exact ⟨⟨⟨⟨(hcc _ _ (by omega) (by omega)).trans s0, (hcc _ _ (by omega) (by omega)).trans s1, (hcc _ _ (by omega) (by omega)).trans s2, (hcc _ _ (by omega) (by omega)).trans s3, (hcc _ _ (by omega) (by omega)).trans s4⟩, (hcc _ _ (by omega) (by omega)).trans s5⟩, (hcc _ _ (by omega) (by omega)).trans s6, (hcc _ _ (by omega) (by omega)).trans s7⟩, (hcc _ _ (by omega) (by omega)).trans s8⟩
          have HF := Lib.hid (mk_grown HEWu.out hown hgrow hat rfl HCELL.out HTK.out)
          obtain ⟨q0, q1⟩ := HF.out.2.2.1.two
          have q2 := HF.out.2.2.1.frozen 0
          refine hK.out _ _ (fun _ => hSn) ?_
          replace hS := hSn
          clear hK K hSn hown hgrow hat hlt
          try simp only [Act.put]
          refine wpAnyE_tk (i := 35) (v := ?_) #[true, true, true, true, true, true, true, true, true, true, true, true, true, true, true, true, true, true, true, true, true, true, true, true, true, true, true, true, true, true, true, true, true, true, true, true, false] (some 62) rfl rfl (by kernel_rfl) (by kernel_rfl) (by kernel_rfl) (by kernel_rfl) (by kernel_rfl) (fun _ _ _ h => h) (Or.inl ⟨by rfl, ?_⟩) hS ?_
          rotate_left
          · (intro w hSw; (try dsimp only at hSw); go_simp; all_goals with_reducible rfl)
          simp only [Act.put]
          refine wpAnyE_ready (rs := [36]) (by kernel_rfl) (by simp) ?_
          refine AllE.cons' (o := _) #[true, true, true, true, true, true, true, true, true, true, true, true, true, true, true, true, true, true, true, true, true, true, true, true, true, true, true, true, true, true, true, true, true, true, true, true, true] rfl (by kernel_rfl) (fun K hK => ?_) AllE.nil
          go_simp
          refine hK.out _ _ (fun h => absurd rfl h) ?_
          clear hK K hS q0 q1 q2
          try simp only [Act.put]
          refine wpAnyE_done (by kernel_rfl) ?_ _
          have HF2 := Lib.hid (mk_stored HF.out)
          go_wp2
          go_roundw
          case rel => exact ⟨k + 1, _, _, by omega, by go_num, HF2.out⟩
          case measure => simp [intOf]; omega
      · skip
        go_simp
        refine (pitches_any _).mono ?_
        rintro e' W11 ⟨g11, rfl, hg, hblk, hk⟩
        dsimp only
        have hlW11 : Wd.heap.size ≤ W11.heap.size := hk.size
        have hgW11 : g11 < W11.heap.size := hblk.lt
        have hgW11b : Wd.heap.size ≤ g11 := hg
        have hn : W11.cell? ⟨g11, f * 2, none⟩ = some (.int .i64 (pitN f : Nat)) ∧ W11.cell? ⟨g11, f * 2 + 1, none⟩ = some (.int .i64 (pitD f : Nat)) := ⟨(hblk.cell _).trans HPT.out.1, (hblk.cell _).trans HPT.out.2⟩
        have HEW11 := Lib.hid (HEWd.out.below hk)
        have hSn : W11.cell? ⟨w.heap.size + 1 + 1, 0, none⟩ = some (.slice A k cap) ∧ W11.cell? ⟨wr.heap.size, 0, none⟩ = some (.int .u8 dv) ∧ W11.cell? ⟨wr.heap.size, 1, none⟩ = some (.int .u8 tn) ∧ W11.cell? ⟨wr.heap.size, 2, none⟩ = some (.int .u8 ft) ∧ W11.cell? ⟨wr.heap.size, 4, none⟩ = some (.int .u8 ks) := by
          obtain ⟨s0, s1, s2, s3, s4⟩ := hS
          have hcc := (bcell hk).1
          exact ⟨(hcc _ _ (by omega)).trans s0, (hcc _ _ (by omega)).trans s1, (hcc _ _ (by omega)).trans s2, (hcc _ _ (by omega)).trans s3, (hcc _ _ (by omega)).trans s4⟩
        refine hK.out _ _ (fun _ => hSn) ?_
        try simp only [Act.put]
        replace hS := And.intro hSn hn
        clear hK K hk hSn hn hg hblk
        refine wpAnyE_more (S' := fun w' => (w'.cell? ⟨w.heap.size + 1 + 1, 0, none⟩ = some (.slice A k cap) ∧ w'.cell? ⟨wr.heap.size, 0, none⟩ = some (.int .u8 dv) ∧ w'.cell? ⟨wr.heap.size, 1, none⟩ = some (.int .u8 tn) ∧ w'.cell? ⟨wr.heap.size, 2, none⟩ = some (.int .u8 ft) ∧ w'.cell? ⟨wr.heap.size, 4, none⟩ = some (.int .u8 ks)) ∧ w'.cell? ⟨g11, f * 2, none⟩ = some (.int .i64 (pitN f : Nat)) ∧ w'.cell? ⟨g11, f * 2 + 1, none⟩ = some (.int .i64 (pitD f : Nat))) (fun _ h => h.1) _ _ _ _ ?_
        refine wpAnyE_tk (i := 22) (v := ?_) #[true, true, true, true, true, false, false, false, true, true, true, true, false, true, true, true, false, false, true, true, true, true, true, false, true, true, true, true, true, true, true, true, false, false, false, false, false] (some 49) rfl rfl (by kernel_rfl) (by kernel_rfl) (by kernel_rfl) (by kernel_rfl) (by kernel_rfl) (fun _ _ _ h => h) (Or.inl ⟨by rfl, ?_⟩) hS ?_
        rotate_left
        · (intro w hSw; (try dsimp only at hSw); go_simp; all_goals with_reducible rfl)
        simp only [Act.put]
        refine wpAnyE_tk (i := 23) (v := ?_) #[true, true, true, true, true, false, false, false, true, true, true, true, false, true, true, true, false, false, true, true, true, true, true, true, true, true, true, true, true, true, true, true, false, false, false, false, false] (some 50) rfl rfl (by kernel_rfl) (by kernel_rfl) (by kernel_rfl) (by kernel_rfl) (by kernel_rfl) (fun _ _ _ h => h) (Or.inl ⟨by rfl, ?_⟩) hS ?_
        rotate_left
        · (intro w hSw; (try dsimp only at hSw); go_simp; all_goals with_reducible rfl)
        simp only [Act.put]
        refine wpAnyE_ready (rs := [5, 12]) (by kernel_rfl) (by simp) ?_
        refine AllE.cons' (o := _) #[true, true, true, true, true, true, false, false, true, true, true, true, false, true, true, true, false, false, true, true, true, true, true, true, true, true, true, true, true, true, true, true, false, false, false, false, false] rfl (by kernel_rfl) (fun K hK => ?_) (AllE.cons' (o := _) #[true, true, true, true, true, false, false, false, true, true, true, true, true, true, true, true, false, false, true, true, true, true, true, true, true, true, true, true, true, true, true, true, false, false, false, false, false] rfl (by kernel_rfl) (fun K hK => ?_) AllE.nil)
        · skip
          go_simp
          obtain ⟨W12, hWn⟩ : ∃ W, W = W11.alloc (.cells #[.int .u8 (48 + (k : Int))] 5) := ⟨_, rfl⟩
          rw [← hWn]
          have hk : Below W11.heap.size W11 W12 := by rw [hWn]; exact bw_new (Below.refl _ _) _
          have hlW12 : W11.heap.size < W12.heap.size := by rw [hWn]; simp
          have hn : W12.cell? ⟨W11.heap.size, 0, none⟩ = some (.int .u8 (48 + (k : Int))) := by rw [hWn]; exact (Blk.new (w := W11) (cs := [.int .u8 (48 + (k : Int))])).cell 0
          have HEW12 := Lib.hid (HEW11.out.below hk)
          have hSn : (W12.cell? ⟨w.heap.size + 1 + 1, 0, none⟩ = some (.slice A k cap) ∧ W12.cell? ⟨wr.heap.size, 0, none⟩ = some (.int .u8 dv) ∧ W12.cell? ⟨wr.heap.size, 1, none⟩ = some (.int .u8 tn) ∧ W12.cell? ⟨wr.heap.size, 2, none⟩ = some (.int .u8 ft) ∧ W12.cell? ⟨wr.heap.size, 4, none⟩ = some (.int .u8 ks)) ∧ W12.cell? ⟨g11, f * 2, none⟩ = some (.int .i64 (pitN f : Nat)) ∧ W12.cell? ⟨g11, f * 2 + 1, none⟩ = some (.int .i64 (pitD f : Nat)) := by
            obtain ⟨⟨s0, s1, s2, s3, s4⟩, s5, s6⟩ := hS
            have hcc := (bcell hk).1
            exact ⟨⟨(hcc _ _ (by omega)).trans s0, (hcc _ _ (by omega)).trans s1, (hcc _ _ (by omega)).trans s2, (hcc _ _ (by omega)).trans s3, (hcc _ _ (by omega)).trans s4⟩, (hcc _ _ (by omega)).trans s5, (hcc _ _ (by omega)).trans s6⟩
          refine hK.out _ _ (fun _ => hSn) ?_
          try simp only [Act.put]
          replace hS := And.intro hSn hn
          clear hK K hk hSn hn hWn
          refine wpAnyE_more (S' := fun w' => ((w'.cell? ⟨w.heap.size + 1 + 1, 0, none⟩ = some (.slice A k cap) ∧ w'.cell? ⟨wr.heap.size, 0, none⟩ = some (.int .u8 dv) ∧ w'.cell? ⟨wr.heap.size, 1, none⟩ = some (.int .u8 tn) ∧ w'.cell? ⟨wr.heap.size, 2, none⟩ = some (.int .u8 ft) ∧ w'.cell? ⟨wr.heap.size, 4, none⟩ = some (.int .u8 ks)) ∧ w'.cell? ⟨g11, f * 2, none⟩ = some (.int .i64 (pitN f : Nat)) ∧ w'.cell? ⟨g11, f * 2 + 1, none⟩ = some (.int .i64 (pitD f : Nat))) ∧ w'.cell? ⟨W11.heap.size, 0, none⟩ = some (.int .u8 (48 + (k : Int)))) (fun _ h => h.1) _ _ _ _ ?_
          refine wpAnyE_tk (i := 6) (v := ?_) #[true, true, true, true, true, true, true, false, true, true, true, true, false, true, true, true, false, false, true, true, true, true, true, true, true, true, true, true, true, true, true, true, false, false, false, false, false] (some 33) rfl rfl (by kernel_rfl) (by kernel_rfl) (by kernel_rfl) (by kernel_rfl) (by kernel_rfl) (fun _ _ _ h => h) (Or.inl ⟨by rfl, ?_⟩) hS ?_
          rotate_left
          · (intro w hSw; (try dsimp only at hSw); go_simp; all_goals with_reducible rfl)
          simp only [Act.put]
          refine wpAnyE_tk (i := 7) (v := ?_) #[true, true, true, true, true, true, true, true, true, true, true, true, false, true, true, true, false, false, true, true, true, true, true, true, true, true, true, true, true, true, true, true, false, false, false, false, false] (some 34) rfl rfl (by kernel_rfl) (by kernel_rfl) (by kernel_rfl) (by kernel_rfl) (by kernel_rfl) (fun _ _ _ h => h) (Or.inl ⟨by rfl, ?_⟩) hS ?_
          rotate_left
          · (intro w hSw; (try dsimp only at hSw); go_simp; all_goals with_reducible rfl)
          simp only [Act.put]
          refine wpAnyE_ready (rs := [12]) (by kernel_rfl) (by simp) ?_
          refine AllE.cons' (o := _) #[true, true, true, true, true, true, true, true, true, true, true, true, true, true, true, true, false, false, true, true, true, true, true, true, true, true, true, true, true, true, true, true, false, false, false, false, false] rfl (by kernel_rfl) (fun K hK => ?_) AllE.nil
          go_simp
          obtain ⟨W13, hWn⟩ : ∃ W, W = W12.alloc (.cells #[.string ⟨#[102, 108, 117, 116, 101]⟩, .string ⟨#[114, 101, 101, 100]⟩] 9) := ⟨_, rfl⟩
          rw [← hWn]
          have hk : Below W12.heap.size W12 W13 := by rw [hWn]; exact bw_new (Below.refl _ _) _
          have hlW13 : W12.heap.size < W13.heap.size := by rw [hWn]; simp
          have hn : W13.cell? ⟨W12.heap.size, e, none⟩ = some (.string tone) := by rw [hWn]; exact ((Blk.new (w := W12) (cs := [.string ⟨#[102, 108, 117, 116, 101]⟩, .string ⟨#[114, 101, 101, 100]⟩])).cell e).trans HTN.out
          have HEW13 := Lib.hid (HEW12.out.below hk)
          have hSn : ((W13.cell? ⟨w.heap.size + 1 + 1, 0, none⟩ = some (.slice A k cap) ∧ W13.cell? ⟨wr.heap.size, 0, none⟩ = some (.int .u8 dv) ∧ W13.cell? ⟨wr.heap.size, 1, none⟩ = some (.int .u8 tn) ∧ W13.cell? ⟨wr.heap.size, 2, none⟩ = some (.int .u8 ft) ∧ W13.cell? ⟨wr.heap.size, 4, none⟩ = some (.int .u8 ks)) ∧ W13.cell? ⟨g11, f * 2, none⟩ = some (.int .i64 (pitN f : Nat)) ∧ W13.cell? ⟨g11, f * 2 + 1, none⟩ = some (.int .i64 (pitD f : Nat))) ∧ W13.cell? ⟨W11.heap.size, 0, none⟩ = some (.int .u8 (48 + (k : Int))) := by
            obtain ⟨⟨⟨s0, s1, s2, s3, s4⟩, s5, s6⟩, s7⟩ := hS
            have hcc := (bcell hk).1
            exact ⟨⟨⟨(hcc _ _ (by omega)).trans s0, (hcc _ _ (by omega)).trans s1, (hcc _ _ (by omega)).trans s2, (hcc _ _ (by omega)).trans s3, (hcc _ _ (by omega)).trans s4⟩, (hcc _ _ (by omega)).trans s5, (hcc _ _ (by omega)).trans s6⟩, (hcc _ _ (by omega)).trans s7⟩
          refine hK.out _ _ (fun _ => hSn) ?_
          try simp only [Act.put]
          replace hS := And.intro hSn hn
          clear hK K hk hSn hn hWn
          refine wpAnyE_more (S' := fun w' => (((w'.cell? ⟨w.heap.size + 1 + 1, 0, none⟩ = some (.slice A k cap) ∧ w'.cell? ⟨wr.heap.size, 0, none⟩ = some (.int .u8 dv) ∧ w'.cell? ⟨wr.heap.size, 1, none⟩ = some (.int .u8 tn) ∧ w'.cell? ⟨wr.heap.size, 2, none⟩ = some (.int .u8 ft) ∧ w'.cell? ⟨wr.heap.size, 4, none⟩ = some (.int .u8 ks)) ∧ w'.cell? ⟨g11, f * 2, none⟩ = some (.int .i64 (pitN f : Nat)) ∧ w'.cell? ⟨g11, f * 2 + 1, none⟩ = some (.int .i64 (pitD f : Nat))) ∧ w'.cell? ⟨W11.heap.size, 0, none⟩ = some (.int .u8 (48 + (k : Int)))) ∧ w'.cell? ⟨W12.heap.size, e, none⟩ = some (.string tone)) (fun _ h => h.1) _ _ _ _ ?_
          refine wpAnyE_tk (i := 16) (v := ?_) #[true, true, true, true, true, true, true, true, true, true, true, true, true, true, true, true, true, false, true, true, true, true, true, true, true, true, true, true, true, true, true, true, false, false, false, false, false] (some 43) rfl rfl (by kernel_rfl) (by kernel_rfl) (by kernel_rfl) (by kernel_rfl) (by kernel_rfl) (fun _ _ _ h => h) (Or.inl ⟨by rfl, ?_⟩) hS ?_
          rotate_left
          · (intro w hSw; (try dsimp only at hSw); go_simp; all_goals with_reducible rfl)
          simp only [Act.put]
          refine wpAnyE_tk (i := 17) (v := ?_) #[true, true, true, true, true, true, true, true, true, true, true, true, true, true, true, true, true, true, true, true, true, true, true, true, true, true, true, true, true, true, true, true, false, false, false, false, false] (some 44) rfl rfl (by kernel_rfl) (by kernel_rfl) (by kernel_rfl) (by kernel_rfl) (by kernel_rfl) (fun _ _ _ h => h) (Or.inl ⟨by rfl, ?_⟩) hS ?_
          rotate_left
          · (intro w hSw; (try dsimp only at hSw); go_simp; all_goals with_reducible rfl)
          simp only [Act.put]
          refine wpAnyE_tk (i := 32) (v := ?_) #[true, true, true, true, true, true, true, true, true, true, true, true, true, true, true, true, true, true, true, true, true, true, true, true, true, true, true, true, true, true, true, true, true, false, false, false, false] (some 59) rfl rfl (by kernel_rfl) (by kernel_rfl) (by kernel_rfl) (by kernel_rfl) (by kernel_rfl) (fun _ _ _ h => h) (Or.inl ⟨by rfl, ?_⟩) hS ?_
          rotate_left
          · (intro w hSw; (try dsimp only at hSw); go_simp; all_goals with_reducible rfl)
          simp only [Act.put]
          refine wpAnyE_ready (rs := [33]) (by kernel_rfl) (by simp) ?_
          refine AllE.cons' (o := _) #[true, true, true, true, true, true, true, true, true, true, true, true, true, true, true, true, true, true, true, true, true, true, true, true, true, true, true, true, true, true, true, true, true, true, false, false, false] rfl (by kernel_rfl) (fun K hK => ?_) AllE.nil
          go_simp
          obtain ⟨Wu, hWn⟩ : ∃ W, W = W13.alloc (.cells #[.string (⟨#[119]⟩ ++ sd), .int .i64 r0, .string tone, .int .i64 (pitN f : Nat), .int .i64 (pitD f : Nat), .int .i64 (36 + (q : Int)), .int .i64 (36 + (q : Int) + (h : Int))] 51) := ⟨_, rfl⟩
          rw [← hWn]
          have hk : Below W13.heap.size W13 Wu := by rw [hWn]; exact bw_new (Below.refl _ _) _
          have hlu : Wu.heap.size = W13.heap.size + 1 := by rw [hWn]; simp
          have hnew := World.news_of_block (cs := #[.string (⟨#[119]⟩ ++ sd), .int .i64 r0, .string tone, .int .i64 (pitN f : Nat), .int .i64 (pitD f : Nat), .int .i64 (36 + (q : Int)), .int .i64 (36 + (q : Int) + (h : Int))]) (t := 51) (fr := (0, 0)) (heap_alloc_new W13 (.cells #[.string (⟨#[119]⟩ ++ sd), .int .i64 r0, .string tone, .int .i64 (pitN f : Nat), .int .i64 (pitD f : Nat), .int .i64 (36 + (q : Int)), .int .i64 (36 + (q : Int) + (h : Int))] 51))
          rw [← hWn] at hnew
          have HEWu := Lib.hid (HEW13.out.below hk)
          have hSn : (((Wu.cell? ⟨w.heap.size + 1 + 1, 0, none⟩ = some (.slice A k cap) ∧ Wu.cell? ⟨wr.heap.size, 0, none⟩ = some (.int .u8 dv) ∧ Wu.cell? ⟨wr.heap.size, 1, none⟩ = some (.int .u8 tn) ∧ Wu.cell? ⟨wr.heap.size, 2, none⟩ = some (.int .u8 ft) ∧ Wu.cell? ⟨wr.heap.size, 4, none⟩ = some (.int .u8 ks)) ∧ Wu.cell? ⟨g11, f * 2, none⟩ = some (.int .i64 (pitN f : Nat)) ∧ Wu.cell? ⟨g11, f * 2 + 1, none⟩ = some (.int .i64 (pitD f : Nat))) ∧ Wu.cell? ⟨W11.heap.size, 0, none⟩ = some (.int .u8 (48 + (k : Int)))) ∧ Wu.cell? ⟨W12.heap.size, e, none⟩ = some (.string tone) := by
            obtain ⟨⟨⟨⟨s0, s1, s2, s3, s4⟩, s5, s6⟩, s7⟩, s8⟩ := hS
            have hcc := (bcell hk).1
            exact ⟨⟨⟨⟨(hcc _ _ (by omega)).trans s0, (hcc _ _ (by omega)).trans s1, (hcc _ _ (by omega)).trans s2, (hcc _ _ (by omega)).trans s3, (hcc _ _ (by omega)).trans s4⟩, (hcc _ _ (by omega)).trans s5, (hcc _ _ (by omega)).trans s6⟩, (hcc _ _ (by omega)).trans s7⟩, (hcc _ _ (by omega)).trans s8⟩
          refine hK.out _ _ (fun _ => hSn) ?_
          try simp only [Act.put]
          replace hS := hSn
          clear hK K hk hSn hWn
          refine wpAnyE_ready (rs := [34]) (by kernel_rfl) (by simp) ?_
          refine AllE.cons' (o := _) #[true, true, true, true, true, true, true, true, true, true, true, true, true, true, true, true, true, true, true, true, true, true, true, true, true, true, true, true, true, true, true, true, true, true, true, false, false] rfl (by kernel_rfl) (fun K hK => ?_) AllE.nil
          refine step_append_lies _ (by rfl) _ _ _ (by rfl) (w.heap.size + 3) 51 i0 (.agg #[.string ⟨#[]⟩, .int .i64 0, .string ⟨#[]⟩, .int .i64 0, .int .i64 0, .int .i64 0, .int .i64 0]) 7 72 Tryz.underlying27 HHI.out HZ0.out HZ1.out HZ2.out rfl (by decide) (.slice A k cap) k (wsCells (mkWs 0 (L.take k))) (by rfl) HEWu.out.1
            ⟨W13.heap.size, 0, none⟩ 1 1 [.string (⟨#[119]⟩ ++ sd), .int .i64 r0, .string tone, .int .i64 (pitN f : Nat), .int .i64 (pitD f : Nat), .int .i64 (36 + (q : Int)), .int .i64 (36 + (q : Int) + (h : Int))] (by rfl) (by rfl) hnew (by simp [Value.oneCell'])
            (by omega) (by unfold maxLen; omega) (by omega) (by omega) Wu.heap.size rfl ?_
          intro g cap2 Wv hown hgrow hat hlt
          have hSn : (((Wv.cell? ⟨w.heap.size + 1 + 1, 0, none⟩ = some (.slice A k cap) ∧ Wv.cell? ⟨wr.heap.size, 0, none⟩ = some (.int .u8 dv) ∧ Wv.cell? ⟨wr.heap.size, 1, none⟩ = some (.int .u8 tn) ∧ Wv.cell? ⟨wr.heap.size, 2, none⟩ = some (.int .u8 ft) ∧ Wv.cell? ⟨wr.heap.size, 4, none⟩ = some (.int .u8 ks)) ∧ Wv.cell? ⟨g11, f * 2, none⟩ = some (.int .i64 (pitN f : Nat)) ∧ Wv.cell? ⟨g11, f * 2 + 1, none⟩ = some (.int .i64 (pitD f : Nat))) ∧ Wv.cell? ⟨W11.heap.size, 0, none⟩ = some (.int .u8 (48 + (k : Int)))) ∧ Wv.cell? ⟨W12.heap.size, e, none⟩ = some (.string tone) := by
            obtain ⟨⟨⟨⟨s0, s1, s2, s3, s4⟩, s5, s6⟩, s7⟩, s8⟩ := hS
            have hcc : ∀ b o, b < Wu.heap.size → (b = w.heap.size + 1 + 1 ∨ wr.heap.size ≤ b) → Wv.cell? ⟨b, o, none⟩ = Wu.cell? ⟨b, o, none⟩ := fun b o h1 h2 => World.cell?_of_block (hgrow.block b h1 (fun e => by
              have ha := (HEWu.out.1.lt _ e.symm).1
              have hb := (HRL.out.1.lt _ e.symm).2
              omega))
            exact ⟨⟨⟨⟨(hcc _ _ (by omega) (by omega)).trans s0, (hcc _ _ (by omega) (by omega)).trans s1, (hcc _ _ (by omega) (by omega)).trans s2, (hcc _ _ (by omega) (by omega)).trans s3, (hcc _ _ (by omega) (by omega)).trans s4⟩, (hcc _ _ (by omega) (by omega)).trans s5, (hcc _ _ (by omega) (by omega)).trans s6⟩, (hcc _ _ (by omega) (by omega)).trans s7⟩, (hcc _ _ (by omega) (by omega)).trans s8⟩
          have HF := Lib.hid (mk_grown HEWu.out hown hgrow hat rfl HCELL.out HTK.out)
          obtain ⟨q0, q1⟩ := HF.out.2.2.1.two
          have q2 := HF.out.2.2.1.frozen 0
          refine hK.out _ _ (fun _ => hSn) ?_
          replace hS := hSn
          clear hK K hSn hown hgrow hat hlt
          try simp only [Act.put]
          refine wpAnyE_tk (i := 35) (v := ?_) #[true, true, true, true, true, true, true, true, true, true, true, true, true, true, true, true, true, true, true, true, true, true, true, true, true, true, true, true, true, true, true, true, true, true, true, true, false] (some 62) rfl rfl (by kernel_rfl) (by kernel_rfl) (by kernel_rfl) (by kernel_rfl) (by kernel_rfl) (fun _ _ _ h => h) (Or.inl ⟨by rfl, ?_⟩) hS ?_
          rotate_left
          · (intro w hSw; (try dsimp only at hSw); go_simp; all_goals with_reducible rfl)
          simp only [Act.put]
          refine wpAnyE_ready (rs := [36]) (by kernel_rfl) (by simp) ?_
          refine AllE.cons' (o := _) #[true, true, true, true, true, true, true, true, true, true, true, true, true, true, true, true, true, true, true, true, true, true, true, true, true, true, true, true, true, true, true, true, true, true, true, true, true] rfl (by kernel_rfl) (fun K hK => ?_) AllE.nil
          go_simp
          refine hK.out _ _ (fun h => absurd rfl h) ?_
          clear hK K hS q0 q1 q2
          try simp only [Act.put]
          refine wpAnyE_done (by kernel_rfl) ?_ _
          have HF2 := Lib.hid (mk_stored HF.out)
          go_wp2
          go_roundw
          case rel => exact ⟨k + 1, _, _, by omega, by go_num, HF2.out⟩
          case measure => simp [intOf]; omega
        · skip
          go_simp
          obtain ⟨W14, hWn⟩ : ∃ W, W = W11.alloc (.cells #[.string ⟨#[102, 108, 117, 116, 101]⟩, .string ⟨#[114, 101, 101, 100]⟩] 9) := ⟨_, rfl⟩
          rw [← hWn]
          have hk : Below W11.heap.size W11 W14 := by rw [hWn]; exact bw_new (Below.refl _ _) _
          have hlW14 : W11.heap.size < W14.heap.size := by rw [hWn]; simp
          have hn : W14.cell? ⟨W11.heap.size, e, none⟩ = some (.string tone) := by rw [hWn]; exact ((Blk.new (w := W11) (cs := [.string ⟨#[102, 108, 117, 116, 101]⟩, .string ⟨#[114, 101, 101, 100]⟩])).cell e).trans HTN.out
          have HEW14 := Lib.hid (HEW11.out.below hk)
          have hSn : (W14.cell? ⟨w.heap.size + 1 + 1, 0, none⟩ = some (.slice A k cap) ∧ W14.cell? ⟨wr.heap.size, 0, none⟩ = some (.int .u8 dv) ∧ W14.cell? ⟨wr.heap.size, 1, none⟩ = some (.int .u8 tn) ∧ W14.cell? ⟨wr.heap.size, 2, none⟩ = some (.int .u8 ft) ∧ W14.cell? ⟨wr.heap.size, 4, none⟩ = some (.int .u8 ks)) ∧ W14.cell? ⟨g11, f * 2, none⟩ = some (.int .i64 (pitN f : Nat)) ∧ W14.cell? ⟨g11, f * 2 + 1, none⟩ = some (.int .i64 (pitD f : Nat)) := by
            obtain ⟨⟨s0, s1, s2, s3, s4⟩, s5, s6⟩ := hS
            have hcc := (bcell hk).1
            exact ⟨⟨(hcc _ _ (by omega)).trans s0, (hcc _ _ (by omega)).trans s1, (hcc _ _ (by omega)).trans s2, (hcc _ _ (by omega)).trans s3, (hcc _ _ (by omega)).trans s4⟩, (hcc _ _ (by omega)).trans s5, (hcc _ _ (by omega)).trans s6⟩
          refine hK.out _ _ (fun _ => hSn) ?_
          try simp only [Act.put]
          replace hS := And.intro hSn hn
          clear hK K hk hSn hn hWn
          refine wpAnyE_more (S' := fun w' => ((w'.cell? ⟨w.heap.size + 1 + 1, 0, none⟩ = some (.slice A k cap) ∧ w'.cell? ⟨wr.heap.size, 0, none⟩ = some (.int .u8 dv) ∧ w'.cell? ⟨wr.heap.size, 1, none⟩ = some (.int .u8 tn) ∧ w'.cell? ⟨wr.heap.size, 2, none⟩ = some (.int .u8 ft) ∧ w'.cell? ⟨wr.heap.size, 4, none⟩ = some (.int .u8 ks)) ∧ w'.cell? ⟨g11, f * 2, none⟩ = some (.int .i64 (pitN f : Nat)) ∧ w'.cell? ⟨g11, f * 2 + 1, none⟩ = some (.int .i64 (pitD f : Nat))) ∧ w'.cell? ⟨W11.heap.size, e, none⟩ = some (.string tone)) (fun _ h => h.1) _ _ _ _ ?_
          refine wpAnyE_tk (i := 16) (v := ?_) #[true, true, true, true, true, false, false, false, true, true, true, true, true, true, true, true, true, false, true, true, true, true, true, true, true, true, true, true, true, true, true, true, false, false, false, false, false] (some 43) rfl rfl (by kernel_rfl) (by kernel_rfl) (by kernel_rfl) (by kernel_rfl) (by kernel_rfl) (fun _ _ _ h => h) (Or.inl ⟨by rfl, ?_⟩) hS ?_
          rotate_left
          · (intro w hSw; (try dsimp only at hSw); go_simp; all_goals with_reducible rfl)
          simp only [Act.put]
          refine wpAnyE_tk (i := 17) (v := ?_) #[true, true, true, true, true, false, false, false, true, true, true, true, true, true, true, true, true, true, true, true, true, true, true, true, true, true, true, true, true, true, true, true, false, false, false, false, false] (some 44) rfl rfl (by kernel_rfl) (by kernel_rfl) (by kernel_rfl) (by kernel_rfl) (by kernel_rfl) (fun _ _ _ h => h) (Or.inl ⟨by rfl, ?_⟩) hS ?_
          rotate_left
          · (intro w hSw; (try dsimp only at hSw); go_simp; all_goals with_reducible rfl)
          simp only [Act.put]
          refine wpAnyE_ready (rs := [5]) (by kernel_rfl) (by simp) ?_
          refine AllE.cons' (o := _) #[true, true, true, true, true, true, false, false, true, true, true, true, true, true, true, true, true, true, true, true, true, true, true, true, true, true, true, true, true, true, true, true, false, false, false, false, false] rfl (by kernel_rfl) (fun K hK => ?_) AllE.nil
          go_simp
          obtain ⟨W15, hWn⟩ : ∃ W, W = W14.alloc (.cells #[.int .u8 (48 + (k : Int))] 5) := ⟨_, rfl⟩
          rw [← hWn]
          have hk : Below W14.heap.size W14 W15 := by rw [hWn]; exact bw_new (Below.refl _ _) _
          have hlW15 : W14.heap.size < W15.heap.size := by rw [hWn]; simp
          have hn : W15.cell? ⟨W14.heap.size, 0, none⟩ = some (.int .u8 (48 + (k : Int))) := by rw [hWn]; exact (Blk.new (w := W14) (cs := [.int .u8 (48 + (k : Int))])).cell 0
          have HEW15 := Lib.hid (HEW14.out.below hk)
          have hSn : ((W15.cell? ⟨w.heap.size + 1 + 1, 0, none⟩ = some (.slice A k cap) ∧ W15.cell? ⟨wr.heap.size, 0, none⟩ = some (.int .u8 dv) ∧ W15.cell? ⟨wr.heap.size, 1, none⟩ = some (.int .u8 tn) ∧ W15.cell? ⟨wr.heap.size, 2, none⟩ = some (.int .u8 ft) ∧ W15.cell? ⟨wr.heap.size, 4, none⟩ = some (.int .u8 ks)) ∧ W15.cell? ⟨g11, f * 2, none⟩ = some (.int .i64 (pitN f : Nat)) ∧ W15.cell? ⟨g11, f * 2 + 1, none⟩ = some (.int .i64 (pitD f : Nat))) ∧ W15.cell? ⟨W11.heap.size, e, none⟩ = some (.string tone) := by
            obtain ⟨⟨⟨s0, s1, s2, s3, s4⟩, s5, s6⟩, s7⟩ := hS
            have hcc := (bcell hk).1
            exact ⟨⟨⟨(hcc _ _ (by omega)).trans s0, (hcc _ _ (by omega)).trans s1, (hcc _ _ (by omega)).trans s2, (hcc _ _ (by omega)).trans s3, (hcc _ _ (by omega)).trans s4⟩, (hcc _ _ (by omega)).trans s5, (hcc _ _ (by omega)).trans s6⟩, (hcc _ _ (by omega)).trans s7⟩
          refine hK.out _ _ (fun _ => hSn) ?_
          try simp only [Act.put]
          replace hS := And.intro hSn hn
          clear hK K hk hSn hn hWn
          refine wpAnyE_more (S' := fun w' => (((w'.cell? ⟨w.heap.size + 1 + 1, 0, none⟩ = some (.slice A k cap) ∧ w'.cell? ⟨wr.heap.size, 0, none⟩ = some (.int .u8 dv) ∧ w'.cell? ⟨wr.heap.size, 1, none⟩ = some (.int .u8 tn) ∧ w'.cell? ⟨wr.heap.size, 2, none⟩ = some (.int .u8 ft) ∧ w'.cell? ⟨wr.heap.size, 4, none⟩ = some (.int .u8 ks)) ∧ w'.cell? ⟨g11, f * 2, none⟩ = some (.int .i64 (pitN f : Nat)) ∧ w'.cell? ⟨g11, f * 2 + 1, none⟩ = some (.int .i64 (pitD f : Nat))) ∧ w'.cell? ⟨W11.heap.size, e, none⟩ = some (.string tone)) ∧ w'.cell? ⟨W14.heap.size, 0, none⟩ = some (.int .u8 (48 + (k : Int)))) (fun _ h => h.1) _ _ _ _ ?_
          refine wpAnyE_tk (i := 6) (v := ?_) #[true, true, true, true, true, true, true, false, true, true, true, true, true, true, true, true, true, true, true, true, true, true, true, true, true, true, true, true, true, true, true, true, false, false, false, false, false] (some 33) rfl rfl (by kernel_rfl) (by kernel_rfl) (by kernel_rfl) (by kernel_rfl) (by kernel_rfl) (fun _ _ _ h => h) (Or.inl ⟨by rfl, ?_⟩) hS ?_
          rotate_left
          · (intro w hSw; (try dsimp only at hSw); go_simp; all_goals with_reducible rfl)
          simp only [Act.put]
          refine wpAnyE_tk (i := 7) (v := ?_) #[true, true, true, true, true, true, true, true, true, true, true, true, true, true, true, true, true, true, true, true, true, true, true, true, true, true, true, true, true, true, true, true, false, false, false, false, false] (some 34) rfl rfl (by kernel_rfl) (by kernel_rfl) (by kernel_rfl) (by kernel_rfl) (by kernel_rfl) (fun _ _ _ h => h) (Or.inl ⟨by rfl, ?_⟩) hS ?_
          rotate_left
          · (intro w hSw; (try dsimp only at hSw); go_simp; all_goals with_reducible rfl)
          simp only [Act.put]
          refine wpAnyE_tk (i := 32) (v := ?_) #[true, true, true, true, true, true, true, true, true, true, true, true, true, true, true, true, true, true, true, true, true, true, true, true, true, true, true, true, true, true, true, true, true, false, false, false, false] (some 59) rfl rfl (by kernel_rfl) (by kernel_rfl) (by kernel_rfl) (by kernel_rfl) (by kernel_rfl) (fun _ _ _ h => h) (Or.inl ⟨by rfl, ?_⟩) hS ?_
          rotate_left
          · (intro w hSw; (try dsimp only at hSw); go_simp; all_goals with_reducible rfl)
          simp only [Act.put]
          refine wpAnyE_ready (rs := [33]) (by kernel_rfl) (by simp) ?_
          refine AllE.cons' (o := _) #[true, true, true, true, true, true, true, true, true, true, true, true, true, true, true, true, true, true, true, true, true, true, true, true, true, true, true, true, true, true, true, true, true, true, false, false, false] rfl (by kernel_rfl) (fun K hK => ?_) AllE.nil
          go_simp
          obtain ⟨Wu, hWn⟩ : ∃ W, W = W15.alloc (.cells #[.string (⟨#[119]⟩ ++ sd), .int .i64 r0, .string tone, .int .i64 (pitN f : Nat), .int .i64 (pitD f : Nat), .int .i64 (36 + (q : Int)), .int .i64 (36 + (q : Int) + (h : Int))] 51) := ⟨_, rfl⟩
          rw [← hWn]
          have hk : Below W15.heap.size W15 Wu := by rw [hWn]; exact bw_new (Below.refl _ _) _
          have hlu : Wu.heap.size = W15.heap.size + 1 := by rw [hWn]; simp
          have hnew := World.news_of_block (cs := #[.string (⟨#[119]⟩ ++ sd), .int .i64 r0, .string tone, .int .i64 (pitN f : Nat), .int .i64 (pitD f : Nat), .int .i64 (36 + (q : Int)), .int .i64 (36 + (q : Int) + (h : Int))]) (t := 51) (fr := (0, 0)) (heap_alloc_new W15 (.cells #[.string (⟨#[119]⟩ ++ sd), .int .i64 r0, .string tone, .int .i64 (pitN f : Nat), .int .i64 (pitD f : Nat), .int .i64 (36 + (q : Int)), .int .i64 (36 + (q : Int) + (h : Int))] 51))
          rw [← hWn] at hnew
          have HEWu := Lib.hid (HEW15.out.below hk)
          have hSn : (((Wu.cell? ⟨w.heap.size + 1 + 1, 0, none⟩ = some (.slice A k cap) ∧ Wu.cell? ⟨wr.heap.size, 0, none⟩ = some (.int .u8 dv) ∧ Wu.cell? ⟨wr.heap.size, 1, none⟩ = some (.int .u8 tn) ∧ Wu.cell? ⟨wr.heap.size, 2, none⟩ = some (.int .u8 ft) ∧ Wu.cell? ⟨wr.heap.size, 4, none⟩ = some (.int .u8 ks)) ∧ Wu.cell? ⟨g11, f * 2, none⟩ = some (.int .i64 (pitN f : Nat)) ∧ Wu.cell? ⟨g11, f * 2 + 1, none⟩ = some (.int .i64 (pitD f : Nat))) ∧ Wu.cell? ⟨W11.heap.size, e, none⟩ = some (.string tone)) ∧ Wu.cell? ⟨W14.heap.size, 0, none⟩ = some (.int .u8 (48 + (k : Int))) := by
            obtain ⟨⟨⟨⟨s0, s1, s2, s3, s4⟩, s5, s6⟩, s7⟩, s8⟩ := hS
            have hcc := (bcell hk).1
            exact ⟨⟨⟨⟨(hcc _ _ (by omega)).trans s0, (hcc _ _ (by omega)).trans s1, (hcc _ _ (by omega)).trans s2, (hcc _ _ (by omega)).trans s3, (hcc _ _ (by omega)).trans s4⟩, (hcc _ _ (by omega)).trans s5, (hcc _ _ (by omega)).trans s6⟩, (hcc _ _ (by omega)).trans s7⟩, (hcc _ _ (by omega)).trans s8⟩
          refine hK.out _ _ (fun _ => hSn) ?_
          try simp only [Act.put]
          replace hS := hSn
          clear hK K hk hSn hWn
          refine wpAnyE_ready (rs := [34]) (by kernel_rfl) (by simp) ?_
          refine AllE.cons' (o := _) #[true, true, true, true, true, true, true, true, true, true, true, true, true, true, true, true, true, true, true, true, true, true, true, true, true, true, true, true, true, true, true, true, true, true, true, false, false] rfl (by kernel_rfl) (fun K hK => ?_) AllE.nil
          refine step_append_lies _ (by rfl) _ _ _ (by rfl) (w.heap.size + 3) 51 i0 (.agg #[.string ⟨#[]⟩, .int .i64 0, .string ⟨#[]⟩, .int .i64 0, .int .i64 0, .int .i64 0, .int .i64 0]) 7 72 Tryz.underlying27 HHI.out HZ0.out HZ1.out HZ2.out rfl (by decide) (.slice A k cap) k (wsCells (mkWs 0 (L.take k))) (by rfl) HEWu.out.1
            ⟨W15.heap.size, 0, none⟩ 1 1 [.string (⟨#[119]⟩ ++ sd), .int .i64 r0, .string tone, .int .i64 (pitN f : Nat), .int .i64 (pitD f : Nat), .int .i64 (36 + (q : Int)), .int .i64 (36 + (q : Int) + (h : Int))] (by rfl) (by rfl) hnew (by simp [Value.oneCell'])
            (by omega) (by unfold maxLen; omega) (by omega) (by omega) Wu.heap.size rfl ?_
          intro g cap2 Wv hown hgrow hat hlt
          have hSn : (((Wv.cell? ⟨w.heap.size + 1 + 1, 0, none⟩ = some (.slice A k cap) ∧ Wv.cell? ⟨wr.heap.size, 0, none⟩ = some (.int .u8 dv) ∧ Wv.cell? ⟨wr.heap.size, 1, none⟩ = some (.int .u8 tn) ∧ Wv.cell? ⟨wr.heap.size, 2, none⟩ = some (.int .u8 ft) ∧ Wv.cell? ⟨wr.heap.size, 4, none⟩ = some (.int .u8 ks)) ∧ Wv.cell? ⟨g11, f * 2, none⟩ = some (.int .i64 (pitN f : Nat)) ∧ Wv.cell? ⟨g11, f * 2 + 1, none⟩ = some (.int .i64 (pitD f : Nat))) ∧ Wv.cell? ⟨W11.heap.size, e, none⟩ = some (.string tone)) ∧ Wv.cell? ⟨W14.heap.size, 0, none⟩ = some (.int .u8 (48 + (k : Int))) := by
            obtain ⟨⟨⟨⟨s0, s1, s2, s3, s4⟩, s5, s6⟩, s7⟩, s8⟩ := hS
            have hcc : ∀ b o, b < Wu.heap.size → (b = w.heap.size + 1 + 1 ∨ wr.heap.size ≤ b) → Wv.cell? ⟨b, o, none⟩ = Wu.cell? ⟨b, o, none⟩ := fun b o h1 h2 => World.cell?_of_block (hgrow.block b h1 (fun e => by
              have ha := (HEWu.out.1.lt _ e.symm).1
              have hb := (HRL.out.1.lt _ e.symm).2
              omega))
            exact ⟨⟨⟨⟨(hcc _ _ (by omega) (by omega)).trans s0, (hcc _ _ (by omega) (by omega)).trans s1, (hcc _ _ (by omega) (by omega)).trans s2, (hcc _ _ (by omega) (by omega)).trans s3, (hcc _ _ (by omega) (by omega)).trans s4⟩, (hcc _ _ (by omega) (by omega)).trans s5, (hcc _ _ (by omega) (by omega)).trans s6⟩, (hcc _ _ (by omega) (by omega)).trans s7⟩, (hcc _ _ (by omega) (by omega)).trans s8⟩
          have HF := Lib.hid (mk_grown HEWu.out hown hgrow hat rfl HCELL.out HTK.out)
          obtain ⟨q0, q1⟩ := HF.out.2.2.1.two
          have q2 := HF.out.2.2.1.frozen 0
          refine hK.out _ _ (fun _ => hSn) ?_
          replace hS := hSn
          clear hK K hSn hown hgrow hat hlt
          try simp only [Act.put]
          refine wpAnyE_tk (i := 35) (v := ?_) #[true, true, true, true, true, true, true, true, true, true, true, true, true, true, true, true, true, true, true, true, true, true, true, true, true, true, true, true, true, true, true, true, true, true, true, true, false] (some 62) rfl rfl (by kernel_rfl) (by kernel_rfl) (by kernel_rfl) (by kernel_rfl) (by kernel_rfl) (fun _ _ _ h => h) (Or.inl ⟨by rfl, ?_⟩) hS ?_
          rotate_left
          · (intro w hSw; (try dsimp only at hSw); go_simp; all_goals with_reducible rfl)
          simp only [Act.put]
          refine wpAnyE_ready (rs := [36]) (by kernel_rfl) (by simp) ?_
          refine AllE.cons' (o := _) #[true, true, true, true, true, true, true, true, true, true, true, true, true, true, true, true, true, true, true, true, true, true, true, true, true, true, true, true, true, true, true, true, true, true, true, true, true] rfl (by kernel_rfl) (fun K hK => ?_) AllE.nil
          go_simp
          refine hK.out _ _ (fun h => absurd rfl h) ?_
          clear hK K hS q0 q1 q2
          try simp only [Act.put]
          refine wpAnyE_done (by kernel_rfl) ?_ _
          have HF2 := Lib.hid (mk_stored HF.out)
          go_wp2
          go_roundw
          case rel => exact ⟨k + 1, _, _, by omega, by go_num, HF2.out⟩
          case measure => simp [intOf]; omega
    · have hkm : k = m := by omega
      subst hkm
      have hrel2 : RuRel w XA xn xc bits A k cap wr.heap.size (mkWs 0 (L.take k)) none 0 0 0 (wr.alloc (.cells #[.int .i64 0, .int .i64 7, .int .i64 12, .int .i64 24, .int .i64 28] 3)) :=
        ⟨World.ownsRow_nil _ _ _ _, HRL.out.1.alloc _, ⟨HRL.out.2.1.alloc _, HRL.out.2.2.1.alloc _⟩, HRL.out.2.2.2.1.alloc _, Blk.new (cs := rl.map i64v), HRL.out.2.2.2.2.2.1.alloc (HRL.out.2.2.2.2.2.1.size) _, by simp, hs⟩
      have HREL2 := Lib.hid hrel2
      obtain ⟨i1, hi1, hy0, hy1, hy2⟩ := info_parts infoInt
      have HI1 := Lib.hid hi1
      have HY0 := Lib.hid hy0
      have HY1 := Lib.hid hy1
      have HY2 := Lib.hid hy2
      clear hrel2 hi1 hy0 hy1 hy2
      go_wp2_with fail
      obtain ⟨wo, rfl⟩ : ∃ wo : World, wo = wr := ⟨_, rfl⟩
      go_loopw [66] (fun v wx => ∃ (j : Nat) (RA : Option Addr) (rn rc : Nat), j ≤ 5 ∧ v = .int .i64 j ∧ RuRel w XA xn xc bits A k cap wo.heap.size (mkWs 0 (L.take k)) RA rn rc j wx) (fun v _ => 5 - (intOf v).toNat)
      case atStart => exact ⟨0, _, _, _, by omega, rfl, HREL2.out⟩
      case round =>
        obtain ⟨j, RA, rn, rc, hj, rfl, hrel⟩ := hrel
        have HRU := Lib.hid hrel
        have hsx : wo.heap.size + 1 ≤ wr.heap.size := hrel.2.2.2.2.2.2.1
        have hrl : rn = (ruP bits j).length := by have := hrel.1.1; rw [List.length_map] at this; omega
        have hrn : rn ≤ 5 := by have := ruP_len bits j; omega
        have HRLN := Lib.hid hrl
        clear hrel hrl
        by_cases hlt2 : j < 5
        · have hx1 := HRU.out.2.2.1.1.two.2
          have hcj : wr.cell? ⟨wo.heap.size, j, none⟩ = some (.int .i64 (rl[j]?.getD 0)) := by
            rw [HRU.out.2.2.2.2.1.cell, List.getElem?_map]
            have : j < rl.length := hlt2
            rw [List.getElem?_eq_getElem this]; rfl
          obtain ⟨y, hy⟩ : ∃ y, y = rl[j]?.getD 0 := ⟨_, rfl⟩
          rw [← hy] at hcj
          have HYV := Lib.hid hy
          clear hy
          cases hb : bitB bits j with
          | true =>
            have hb' : (Go.bits .and .u8 ((bits : Int) / 2 ^ j) 1 == 1) = true := hb
            have HBT := Lib.hid hb
            have hp1 := HRU.out.2.2.2.1.two.2
            clear hb
            go_wp2_with (at_builtin; refine wpList_append_own _ rfl _ _ 25 rfl (wo.heap.size + 1) 3 i1 (.int .i64 0) 1 8 Tryz.underlying25 HI1.out HY0.out HY1.out HY2.out rfl (by decide) _ _ _ rfl (HRU.out.1.alloc _) ⟨wr.heap.size, 0, none⟩ 1 1 [.int .i64 y] rfl rfl (World.news_of_block (cs := #[.int .i64 y]) (t := 3) (fr := (0, 0)) (heap_alloc_new wr _)) (by simp [Value.oneCell']) (by unfold maxLen; omega) (by omega) (by simp; omega) ?_)
            intro v' w3 hown hgrow _
            obtain ⟨g, rc2, hv, hrc2⟩ := own_form hown (by omega)
            subst hv
            obtain ⟨⟨c0, f0⟩, hru⟩ := ru_step HRU.out hgrow hown HBT.out (by rw [HYV.out])
            have HRU2 := Lib.hid hru
            clear hru hown hgrow hp1 hx1 hcj hb'
            go_wp2
            go_roundw
            case rel => exact ⟨j + 1, _, _, _, by omega, by go_num, HRU2.out⟩
            case measure => simp [intOf]; omega
          | false =>
            have hb' : (Go.bits .and .u8 ((bits : Int) / 2 ^ j) 1 == 1) = false := hb
            have HRU2 : Hid (RuRel w XA xn xc bits A k cap wo.heap.size (mkWs 0 (L.take k)) RA rn rc (j + 1) wr) := Lib.hid (by
              unfold RuRel
              rw [ruP_no hb]
              exact HRU.out)
            clear hb
            go_wp2
            go_roundw
            case rel => exact ⟨j + 1, _, _, _, by omega, by go_num, HRU2.out⟩
            case measure => simp [intOf]; omega
        · have hj5 : j = 5 := by omega
          subst hj5
          obtain ⟨h1, h2, ⟨h3, h4⟩, h5, h6, h7, h8, h9⟩ := HRU.out
          obtain ⟨p0, p1⟩ := h5.two
          obtain ⟨q0, q1⟩ := h4.two
          have f0 := h4.frozen 0
          have f1 := h4.frozen 1
          have hfar : ∀ q, (Value.slice A k cap).ownBlock = some q → q ≠ w.heap.size + 1 := fun q hq => by have := (h2.lt q hq).1; omega
          have hfar2 : ∀ q, (Value.slice RA rn rc).ownBlock = some q → q ≠ w.heap.size + 1 := fun q hq => by have := (h1.lt q hq).1; omega
          have e1 := own_far (own_far h2 (p := ⟨w.heap.size + 1, 0, none⟩) hfar (.slice A k cap)) (p := ⟨w.heap.size + 1, 1, none⟩) hfar (.slice RA rn rc)
          have e2 := own_far (own_far h1 (p := ⟨w.heap.size + 1, 0, none⟩) hfar2 (.slice A k cap)) (p := ⟨w.heap.size + 1, 1, none⟩) hfar2 (.slice RA rn rc)
          have hmL : k ≤ L.length := by rw [HL.out]; exact hmx
          have HPB := Lib.hid (Pb.of_owns e1 e2 (by rw [mkWs_length, List.length_take]; omega) HRLN.out (mkWs_ok _ 0))
          have HBW := Lib.hid h7
          have HE1 := Lib.hid e1
          have HE2 := Lib.hid e2
          clear h1 h2 h3 h4 h5 h6 h7 e1 e2 hfar hfar2
          go_wp2
          refine bodyPost_ret (v := .agg #[.slice A k cap, .slice RA rn rc]) (by simp [results, Tryz.results8, go_sem, q0, q1]) rfl ⟨A, k, cap, RA, rn, rc, rfl, HM.out, ?_, ?_, ?_, ?_⟩
          · exact HPB.out
          · exact bw_set (bw_set HBW.out (by omega) _) (by omega) _
          · exact HE1.out
          · exact ⟨_, by omega, HE2.out⟩
theorem make_any (XA : Option Addr) (xn xc bits : Nat) (L : List Wnt) (w : World) (hL : L.length = xn) (hxc : xn ≤ xc) (hxm : xc ≤ maxLen) (hr : NRd w w.heap.size XA L) (_ : bits ≤ 255) :
    Calls Tryz.prog 8 #[.agg #[.slice XA xn xc, .int .u8 bits]] w fun e w' => ∃ A n cap RA rn rc, e = .returned (.agg #[.slice A n cap, .slice RA rn rc]) ∧ n = min xn 5 ∧ Pb w' w'.heap.size A n cap RA rn rc (mkWs 0 (L.take n)) (ruP bits 5) ∧ Below w.heap.size w w' :=
  (make_own XA xn xc bits L w hL hxc hxm hr (by assumption)).mono fun e w' ⟨A, n, cap, RA, rn, rc, h1, h2, h3, h4, _⟩ => ⟨A, n, cap, RA, rn, rc, h1, h2, h3, h4⟩
end

section
open Go.RowKit

instance (n d : Int) : Decidable (PR n d) := by unfold PR; infer_instance
theorem pit_pr : ∀ k, k < 6 → PR (pitN k : Nat) (pitD k : Nat) := by
  intro k hk
  match k, hk with
  | 0, _ => decide +kernel
  | 1, _ => decide +kernel
  | 2, _ => decide +kernel
  | 3, _ => decide +kernel
  | 4, _ => decide +kernel
  | 5, _ => decide +kernel
theorem tone_name (r : Nat) : nameB (toneOf r) = true := by
  unfold toneOf
  split <;> decide +kernel
theorem mkW_err (i : Nat) (x : Wnt) : wE (mkW i x) = 0 := by
  have h6 := pit_pr (x.ft % 6) (Nat.mod_lt _ (by decide))
  unfold wE mkW
  dsimp only
  rw [if_neg (by omega), if_neg (by rw [tone_name]; decide), if_neg (by rw [pErr_ok h6]; decide)]
  unfold cmE
  rw [if_neg (by omega), if_neg (by omega)]
theorem wName_name : ∀ i, i < 5 → nameB (wName i) = true := by decide +kernel
theorem wName_ne : ∀ i, i < 5 → ∀ j, j < 5 → wName i = wName j → i = j := by decide +kernel
/-- The names of made wishes are right, and differ. -/
theorem mk_wsE (L : List Wnt) : ∀ i, i + L.length ≤ 5 → ∀ seen : List ByteArray, (∀ q ∈ seen, ∃ j, j < i ∧ q = wName j) → wsE seen (mkWs i L) = 0 := by
  induction L with
  | nil => intro i _ seen _; rfl
  | cons x r ih =>
    intro i hi seen hs
    rw [List.length_cons] at hi
    have e : mkWs i (x :: r) = mkW i x :: mkWs (i + 1) r := rfl
    have hn : (mkW i x).nm = wName i := rfl
    rw [e, wsE_cons, hn, wName_name i (by omega), mkW_err]
    have hsn : seenB seen (wName i) = false := by
      unfold seenB
      rw [List.any_eq_false]
      intro q hq
      obtain ⟨j, hj, rfl⟩ := hs q hq
      simp only [decide_eq_true_eq]
      intro h
      have := wName_ne j (by omega) i (by omega) h
      omega
    rw [hsn]
    simp only [reduceCtorEq, if_false, ne_eq, not_true_eq_false, Bool.false_eq_true]
    refine ih (i + 1) (by omega) _ (fun q hq => ?_)
    rcases List.mem_append.1 hq with h | h
    · obtain ⟨j, hj, rfl⟩ := hs q h
      exact ⟨j, by omega, rfl⟩
    · rw [List.mem_singleton] at h
      exact ⟨i, by omega, h⟩
theorem ruP_right (n : Nat) : sqE 128 3 none (ruP n 5) = 0 := by
  have e : ruP n 5 = ((((([] ++ if bitB n 0 then [0] else []) ++ if bitB n 1 then [7] else []) ++ if bitB n 2 then [12] else []) ++ if bitB n 3 then [24] else []) ++ if bitB n 4 then [28] else []) := rfl
  rw [e]
  cases bitB n 0 <;> cases bitB n 1 <;> cases bitB n 2 <;> cases bitB n 3 <;> cases bitB n 4 <;> decide
/-- A made problem is right. -/
theorem mk_right {L : List Wnt} (h : L.length ≤ 5) (n : Nat) : pbE (mkWs 0 L) (ruP n 5) = 0 := by
  have h1 := mk_wsE L 0 (by omega) [] (fun q hq => by cases hq)
  have h2 := ruP_len n 5
  unfold pbE
  rw [mkWs_length, if_neg (by omega), if_neg (by omega), if_neg (by omega)]
  exact ruP_right n
theorem mk_both {L : List Wnt} (h : L.length ≤ 5) (n : Nat) {g : List Int} (hg : gpE L.length g = 0) : bothE (mkWs 0 L) (ruP n 5) g = 0 := by
  have := mk_right h n
  unfold bothE
  rw [if_neg (by omega), mkWs_length]
  exact hg

/-- The indices whose bits are set. -/
def gP (n : Nat) : Nat → List Int
  | 0 => []
  | j + 1 => gP n j ++ if bitB n j then [(j : Int)] else []
theorem gP_yes {n j : Nat} (h : bitB n j = true) : gP n (j + 1) = gP n j ++ [(j : Int)] := by
  show gP n j ++ (if bitB n j then [(j : Int)] else []) = _
  rw [h]; rfl
theorem gP_no {n j : Nat} (h : bitB n j = false) : gP n (j + 1) = gP n j := by
  show gP n j ++ (if bitB n j then [(j : Int)] else []) = _
  rw [h]; simp
theorem gP_len (n j : Nat) : (gP n j).length ≤ j := by
  induction j with
  | zero => simp [gP]
  | succ j ih =>
    show (gP n j ++ (if bitB n j then [(j : Int)] else [])).length ≤ j + 1
    rw [List.length_append]
    split <;> simp <;> omega
theorem gP_lt (n j : Nat) : (∀ x ∈ gP n j, 0 ≤ x ∧ x < (j : Int)) ∧ (gP n j).Pairwise (· < ·) := by
  induction j with
  | zero => simp [gP]
  | succ j ih =>
    cases h : bitB n j with
    | true =>
      rw [gP_yes h]
      refine ⟨fun x hx => ?_, ?_⟩
      · rcases List.mem_append.1 hx with h1 | h1
        · have := ih.1 x h1; omega
        · rw [List.mem_singleton] at h1; omega
      · rw [List.pairwise_append]
        refine ⟨ih.2, by simp, fun a ha b hb => ?_⟩
        rw [List.mem_singleton] at hb
        have := ih.1 a ha
        omega
    | false =>
      rw [gP_no h]
      exact ⟨fun x hx => by have := ih.1 x hx; omega, ih.2⟩
theorem sq_of {top e : Int} : ∀ {l : List Int} {p : Option Int}, (∀ x ∈ l, 0 ≤ x ∧ x < top) → l.Pairwise (· < ·) → (∀ q, p = some q → ∀ x ∈ l, q < x) → sqE top e p l = 0
  | [], _, _, _, _ => rfl
  | x :: r, p, h1, h2, h3 => by
    have hx := h1 x List.mem_cons_self
    rw [List.pairwise_cons] at h2
    have hl : lastLe p x = false := by
      cases p with
      | none => rfl
      | some q =>
        have := h3 q rfl x List.mem_cons_self
        exact decide_eq_false (by omega)
    rw [sqE_cons, if_neg (by omega), hl]
    exact sq_of (fun y hy => h1 y (List.mem_cons_of_mem _ hy)) h2.2 (fun q hq y hy => by injection hq with hq; rw [← hq]; exact h2.1 y hy)
theorem gp_of {n : Nat} {l : List Int} (h0 : l ≠ []) (h1 : ∀ x ∈ l, 0 ≤ x ∧ x < (n : Int)) (h2 : l.Pairwise (· < ·)) : gpE n l = 0 := by
  unfold gpE
  rw [if_neg (fun h => h0 (List.eq_nil_of_length_eq_zero h))]
  exact sq_of h1 h2 (fun q hq => by cases hq)
theorem part_sub (g : List Int) (i : Nat) : (g.take i ++ g.drop (i + 1)).Sublist g := by
  have h : (g.drop (i + 1)).Sublist (g.drop i) := by
    rw [show g.drop (i + 1) = (g.drop i).drop 1 by rw [List.drop_drop]]
    exact List.drop_sublist _ _
  have := (List.Sublist.refl (g.take i)).append h
  rwa [List.take_append_drop] at this

/-- Whether a right group is permitted, as Permitted tells it. -/
theorem perm_form {ws : List Wsh} {rules g : List Int} (h : bothE ws rules g = 0) : ∃ (a b : Int) (is : Bool), permVal ws rules g = .tuple #[.int .i64 a, .int .i64 b, .bool is, .int .i64 0] ∧ (is = true ↔ fstP ws rules g = none ∧ costZ ws g ≤ 128) := by
  cases hq : fstP ws rules g with
  | some p => exact ⟨p.1, p.2, false, perm_pair h hq, by simp⟩
  | none => exact ⟨0, 0, decide (costZ ws g ≤ 128), perm_none h hq, by simp⟩
/-- Without one of its wishes a group costs no more, and is permitted if the group is. -/
theorem parts_law {ws : List Wsh} {rules g p : List Int} {is1 is2 : Bool} (hs : p.Sublist g) (hp : p ≠ []) (h1 : is1 = true ↔ fstP ws rules g = none ∧ costZ ws g ≤ 128) (h2 : is2 = true ↔ fstP ws rules p = none ∧ costZ ws p ≤ 128) :
    costZ ws p ≤ costZ ws g ∧ (is1 = false ∨ is2 = true) := by
  have hc := cost_sub (ws := ws) hp (fun x hx => hs.subset hx)
  refine ⟨hc, ?_⟩
  cases hq : is1 with
  | false => exact .inl rfl
  | true =>
    right
    rw [hq] at h1
    obtain ⟨e1, e2⟩ := h1.1 rfl
    exact h2.2 ⟨fstP_sub hs e1, by omega⟩
end
end Go.Proofs.YtkamepalomkpbaaGreatDoor
