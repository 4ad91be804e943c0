/- The statement WishConflicts: the walk. For any plan the call returns true. Conditions: the library's table of powers of ten reads as its text lays it. -/
import Derived.Test.YtkamepalomkpbaaGreatDoorWishEqP
import Derived.Test.YtkamepalomkpbaaGreatDoorWishKnown
import Derived.Test.YtkamepalomkpbaaGreatDoorWishMake
import Derived.Test.YtkamepalomkpbaaGreatDoorRegI
namespace Go.Proofs.YtkamepalomkpbaaGreatDoor
open Go.RowKit

theorem nrd_moreC {w : World} {Bd Bd' : Nat} {A : Option Addr} {L : List Wnt} (h : NRd w Bd A L) (hB : Bd ≤ Bd') : NRd w Bd' A L := fun hl => by
  obtain ⟨b, off, rfl, hb, hc⟩ := h hl
  exact ⟨b, off, rfl, by omega, hc⟩
/-- What holds of the problem in its block. -/
def LcRel (w : World) (bP : Nat) (A : Option Addr) (n cap : Nat) (RA : Option Addr) (rn rc : Nat) (ws : List Wsh) (rules : List Int) (W : World) : Prop :=
  Blk W bP 29 [.slice A n cap, .slice RA rn rc] ∧ Pb W W.heap.size A n cap RA rn rc ws rules ∧ Below w.heap.size w W ∧ w.heap.size ≤ bP ∧ n ≤ 7 ∧ pbE ws rules = 0

--DEFS
/-- The two far wishes. -/
def lowW : Wsh := ⟨⟨#[108, 111, 119]⟩, 0, ⟨#[102, 108, 117, 116, 101]⟩, 64, 1, 0, 96⟩
def highW : Wsh := ⟨⟨#[104, 105, 103, 104]⟩, 1, ⟨#[102, 108, 117, 116, 101]⟩, 1, 2, 0, 96⟩

theorem own_monoC {w : World} {base base' : Nat} {e : TypeId} {size n : Nat} {v : Value} {xs : List Value} (h : w.ownsRow base e size v n xs) (hb : base' ≤ base) : w.ownsRow base' e size v n xs := by
  refine ⟨h.1, ?_⟩
  rcases h.2 with h0 | ⟨g, cap, cur, hv, hbs, hg, hr⟩
  · exact .inl h0
  · exact .inr ⟨g, cap, cur, hv, by omega, hg, hr⟩
theorem wsE_app : ∀ (l : List Wsh) (seen : List ByteArray) (m : List Wsh), wsE seen l = 0 → wsE seen (l ++ m) = wsE (seen ++ nms l) m
  | [], seen, m, _ => by simp [nms]
  | x :: r, seen, m, h => by
    rw [wsE_cons] at h
    rw [List.cons_append, wsE_cons]
    by_cases h1 : nameB x.nm = false
    · rw [if_pos h1] at h; omega
    · rw [if_neg h1] at h ⊢
      by_cases h2 : seenB seen x.nm = true
      · rw [if_pos h2] at h; omega
      · rw [if_neg h2] at h ⊢
        by_cases h3 : wE x ≠ 0
        · rw [if_pos h3] at h; exact absurd h h3
        · rw [if_neg h3] at h ⊢
          rw [wsE_app r _ m h]
          simp [nms]
theorem far_seen (q : ByteArray) (hq : ∀ i, i < 5 → wName i ≠ q) : ∀ (L : List Wnt) (i : Nat), i + L.length ≤ 5 → seenB (nms (mkWs i L)) q = false
  | [], _, _ => rfl
  | x :: r, i, h => by
    rw [List.length_cons] at h
    have e : nms (mkWs i (x :: r)) = wName i :: nms (mkWs (i + 1) r) := rfl
    rw [e, seenB_cons, far_seen q hq r (i + 1) (by omega), decide_eq_false (hq i (by omega))]
    rfl
theorem low_err : wE lowW = 0 := by
  unfold wE lowW
  dsimp only
  rw [if_neg (by omega), if_neg (by decide +kernel), if_neg (by rw [pErr_ok (by decide +kernel)]; decide)]
  decide
theorem high_err : wE highW = 0 := by
  unfold wE highW
  dsimp only
  rw [if_neg (by omega), if_neg (by decide +kernel), if_neg (by rw [pErr_ok (by decide +kernel)]; decide)]
  decide
theorem seenB_app (a b : List ByteArray) (q : ByteArray) : seenB (a ++ b) q = (seenB a q || seenB b q) := by simp [seenB]
theorem mk_far {L : List Wnt} (h : L.length ≤ 5) (n : Nat) : pbE (mkWs 0 L ++ [lowW, highW]) (ruP n 5) = 0 := by
  have h1 := mk_wsE L 0 (by omega) [] (fun q hq => by cases hq)
  have h2 := ruP_len n 5
  have hl : nameB lowW.nm = true := by decide +kernel
  have hh : nameB highW.nm = true := by decide +kernel
  have s1 : seenB (nms (mkWs 0 L)) lowW.nm = false := far_seen _ (by decide +kernel) L 0 (by omega)
  have s2 : seenB (nms (mkWs 0 L)) highW.nm = false := far_seen _ (by decide +kernel) L 0 (by omega)
  have e : wsE [] (mkWs 0 L ++ [lowW, highW]) = 0 := by
    rw [wsE_app _ _ _ h1, List.nil_append, wsE_cons, hl, s1, low_err, wsE_cons, hh, seenB_app, s2, high_err]
    have s3 : seenB [lowW.nm] highW.nm = false := by decide +kernel
    rw [s3]
    rfl
  unfold pbE
  rw [List.length_append, mkWs_length, if_neg (by show ¬ 12 < L.length + 2; omega), if_neg (by omega), if_neg (by omega)]
  exact ruP_right n
theorem far_ok {ws : List Wsh} (h : ∀ x ∈ ws, I64 x.fn ∧ I64 x.fd ∧ x.nm.size ≤ 1000000000 ∧ x.tn.size ≤ 1000000000) : ∀ x ∈ ws ++ [lowW, highW], I64 x.fn ∧ I64 x.fd ∧ x.nm.size ≤ 1000000000 ∧ x.tn.size ≤ 1000000000 := by
  intro x hx
  rcases List.mem_append.1 hx with hx | hx
  · exact h x hx
  · simp only [List.mem_cons, List.not_mem_nil, or_false] at hx
    rcases hx with rfl | rfl
    · exact ⟨⟨by decide, by decide⟩, ⟨by decide, by decide⟩, by decide, by decide⟩
    · exact ⟨⟨by decide, by decide⟩, ⟨by decide, by decide⟩, by decide, by decide⟩
/-- The frame while the far wishes are appended. -/
def faF (h b : Nat) (vp vq x18 x19 x20 x21 x22 x23 x24 x25 x26 x27 x28 : Value) : Act := { tmps := #[vp, .bool true, .pointer (some ⟨h, 0, none⟩), undef, .bool false, .pointer (some ⟨b, 0, none⟩), .pointer (some ⟨b + 1, 0, none⟩), undef, undef, undef, undef, undef, .bool true, .bool false, vp, vq, .bool true, .agg #[.int .i64 0, .int .i64 96], x18, x19, x20, x21, x22, x23, x24, x25, x26, x27, x28, undef, undef, undef, undef, undef, undef, undef, undef, undef, undef, undef, undef, undef, undef, undef, undef, undef, undef, undef, undef, undef, undef, undef, undef, undef, undef, undef, undef, undef, undef, undef, undef, undef, undef, undef, undef, undef, undef, undef, undef], defers := [] }
/-- What each operation of this statement keeps, wherever it comes up. -/
def FaRel (w : World) (bs b gR : Nat) (vp : Value) (A : Option Addr) (n cap : Nat) (RA : Option Addr) (rn rc : Nat) (ws : List Wsh) (rules : List Int) (l : Array Bool) (a : Act) (W : World) : Prop :=
  ∃ (u0 u1 u2 u3 u4 u5 u6 u7 u8 u9 u10 u11 : Bool) (gS g2 c2 : Nat), l = #[u0, u1, u2, u3, u4, u5, u6, u7, u8, u9, u10, u11] ∧
    a = faF w.heap.size b vp (.agg #[.slice A n cap, .slice RA rn rc]) (cv u0 (.pointer (some ⟨b, 0, none⟩))) (cv u1 (.slice A n cap)) (cv u2 (.agg #[.int .i64 64, .int .i64 1])) (cv u3 (.agg #[.int .i64 0, .int .i64 96])) (cv u4 (.agg #[.string ⟨#[108, 111, 119]⟩, .int .i64 0, .string ⟨#[102, 108, 117, 116, 101]⟩, .int .i64 64, .int .i64 1, .int .i64 0, .int .i64 96])) (cv u5 (.agg #[.int .i64 1, .int .i64 2])) (cv u6 (.agg #[.int .i64 0, .int .i64 96])) (cv u7 (.agg #[.string ⟨#[104, 105, 103, 104]⟩, .int .i64 1, .string ⟨#[102, 108, 117, 116, 101]⟩, .int .i64 1, .int .i64 2, .int .i64 0, .int .i64 96])) (cv u8 (.slice (some ⟨gS, 0, none⟩) 2 2)) (cv u9 (.slice (some ⟨g2, 0, none⟩) (n + 2) c2)) (cv u10 (.pointer (some ⟨b, 0, none⟩))) ∧
    ((u9 = true → u8 = true ∧ u1 = true) ∧ (u10 = true → u9 = true) ∧ (u11 = true → u10 = true)) ∧
    Blk W b 29 [bif u11 then .slice (some ⟨g2, 0, none⟩) (n + 2) c2 else .slice A n cap, .slice RA rn rc] ∧ Blk W (b + 1) 49 [.int .i64 0, .int .i64 96] ∧
    (u8 = true → u9 = false → Blk W gS 51 [.string ⟨#[108, 111, 119]⟩, .int .i64 0, .string ⟨#[102, 108, 117, 116, 101]⟩, .int .i64 64, .int .i64 1, .int .i64 0, .int .i64 96, .string ⟨#[104, 105, 103, 104]⟩, .int .i64 1, .string ⟨#[102, 108, 117, 116, 101]⟩, .int .i64 1, .int .i64 2, .int .i64 0, .int .i64 96] ∧ b + 2 ≤ gS) ∧ (u9 = false → W.ownsRow bs 51 7 (.slice A n cap) n (wsCells ws) ∧ ∀ q, (Value.slice A n cap).ownBlock = some q → q < b) ∧
    (u9 = true → W.ownsRow bs 51 7 (.slice (some ⟨g2, 0, none⟩) (n + 2) c2) (n + 2) (wsCells (ws ++ [lowW, highW]))) ∧
    W.ownsRow (gR + 1) 3 1 (.slice RA rn rc) rn (rules.map i64v) ∧ Below w.heap.size w W ∧ b + 2 ≤ W.heap.size

theorem FaRel.mem {w W W' : World} {bs b gR : Nat} {A : Option Addr} {n cap : Nat} {RA : Option Addr} {rn rc : Nat} {ws : List Wsh} {rules : List Int} {u8 u9 : Bool} {gS g2 c2 : Nat} {v : Value}
    (h : Blk W b 29 [v, .slice RA rn rc] ∧ Blk W (b + 1) 49 [.int .i64 0, .int .i64 96] ∧
    (u8 = true → u9 = false → Blk W gS 51 [.string ⟨#[108, 111, 119]⟩, .int .i64 0, .string ⟨#[102, 108, 117, 116, 101]⟩, .int .i64 64, .int .i64 1, .int .i64 0, .int .i64 96, .string ⟨#[104, 105, 103, 104]⟩, .int .i64 1, .string ⟨#[102, 108, 117, 116, 101]⟩, .int .i64 1, .int .i64 2, .int .i64 0, .int .i64 96] ∧ b + 2 ≤ gS) ∧ (u9 = false → W.ownsRow bs 51 7 (.slice A n cap) n (wsCells ws) ∧ ∀ q, (Value.slice A n cap).ownBlock = some q → q < b) ∧
    (u9 = true → W.ownsRow bs 51 7 (.slice (some ⟨g2, 0, none⟩) (n + 2) c2) (n + 2) (wsCells (ws ++ [lowW, highW]))) ∧
    W.ownsRow (gR + 1) 3 1 (.slice RA rn rc) rn (rules.map i64v) ∧ Below w.heap.size w W ∧ b + 2 ≤ W.heap.size) (hb : Below W.heap.size W W') :
    Blk W' b 29 [v, .slice RA rn rc] ∧ Blk W' (b + 1) 49 [.int .i64 0, .int .i64 96] ∧
    (u8 = true → u9 = false → Blk W' gS 51 [.string ⟨#[108, 111, 119]⟩, .int .i64 0, .string ⟨#[102, 108, 117, 116, 101]⟩, .int .i64 64, .int .i64 1, .int .i64 0, .int .i64 96, .string ⟨#[104, 105, 103, 104]⟩, .int .i64 1, .string ⟨#[102, 108, 117, 116, 101]⟩, .int .i64 1, .int .i64 2, .int .i64 0, .int .i64 96] ∧ b + 2 ≤ gS) ∧ (u9 = false → W'.ownsRow bs 51 7 (.slice A n cap) n (wsCells ws) ∧ ∀ q, (Value.slice A n cap).ownBlock = some q → q < b) ∧
    (u9 = true → W'.ownsRow bs 51 7 (.slice (some ⟨g2, 0, none⟩) (n + 2) c2) (n + 2) (wsCells (ws ++ [lowW, highW]))) ∧
    W'.ownsRow (gR + 1) 3 1 (.slice RA rn rc) rn (rules.map i64v) ∧ Below w.heap.size w W' ∧ b + 2 ≤ W'.heap.size := by
  obtain ⟨h1, h2, h3, h4, h5, h6, h7, h8⟩ := h
  exact ⟨h1.keep hb, h2.keep hb, fun e1 e2 => ⟨(h3 e1 e2).1.keep hb, (h3 e1 e2).2⟩, fun e => ⟨own_below (h4 e).1 hb, (h4 e).2⟩, fun e => own_below (h5 e) hb, own_below h6 hb, h7.trans (hb.mono h7.size), Nat.le_trans h8 hb.size⟩
theorem own_blk_neC {w : World} {base g : Nat} {e t : TypeId} {size n : Nat} {v : Value} {xs cs : List Value} (h : w.ownsRow base e size v n xs) (hg : Blk w g t cs) (hne : e ≠ t) : some g ≠ v.ownBlock := by
  rcases h.2 with ⟨rfl, _⟩ | ⟨g', cap, cur, rfl, _, hh, _⟩
  · intro e; cases e
  · intro he
    have : g = g' := by simpa [Value.ownBlock] using he
    subst this
    unfold Blk at hg
    rw [hg] at hh
    injection hh with h
    injection h with _ h
    exact hne h.symm
theorem getBC {md : Region.Mode} {l : Array Bool} {es : Array Edge} {x : Bool} (h : ∀ e ∈ es, Region.binds md e = true → l.getD e.on false = true) (j : Nat) (hx : l.getD j false = x) (hm : (es.any fun e => e.on == j && Region.binds md e) = true := by kernel_rfl) : x = true := by
  obtain ⟨e, he, h2⟩ := Array.any_eq_true'.1 hm
  rw [Bool.and_eq_true, beq_iff_eq] at h2
  rw [← hx, ← h2.1]
  exact h e he h2.2

/-- The slice whose address is A reads as the pairs, below block B. -/
def PRdB (B : Nat) (w : World) (A : Option Addr) (L : List (Int × Int)) : Prop :=
  0 < L.length → ∃ b, A = some ⟨b, 0, none⟩ ∧ b < B ∧ ∀ i (h : i < L.length), w.cell? ⟨b, i * 2, none⟩ = some (.int .i64 L[i].1) ∧ w.cell? ⟨b, i * 2 + 1, none⟩ = some (.int .i64 L[i].2)
theorem PRdB.below {B : Nat} {w w' : World} {A : Option Addr} {L : List (Int × Int)} (h : PRdB B w A L) (hb : Below B w w') : PRdB B w' A L := fun hl => by
  obtain ⟨b, rfl, hlt, hc⟩ := h hl
  exact ⟨b, rfl, hlt, fun i hi => ⟨(hb.cell (p := ⟨b, i * 2, none⟩) hlt).trans (hc i hi).1, (hb.cell (p := ⟨b, i * 2 + 1, none⟩) hlt).trans (hc i hi).2⟩⟩
theorem PRdB.prd {B : Nat} {w : World} {A : Option Addr} {L : List (Int × Int)} (h : PRdB B w A L) (hb : B ≤ w.heap.size) : PRd w A L := fun hl => by
  obtain ⟨b, rfl, hlt, hc⟩ := h hl
  exact ⟨b, rfl, by omega, hc⟩
/-- What the loops of the law carry. -/
def LoRel (w : World) (b B5 : Nat) (A : Option Addr) (n cap : Nat) (RA : Option Addr) (rn rc : Nat) (ws : List Wsh) (rules : List Int) (OA : Option Addr) (WA : Option Addr) (wcp : Nat) (L : List (Int × Int)) (wx : World) : Prop :=
  (Blk wx b 29 [.slice A n cap, .slice RA rn rc] ∧ Pb wx B5 A n cap RA rn rc ws rules ∧ PRdB B5 wx OA (cfA ws rules n n)) ∧ wx.ownsRow B5 35 2 (.slice WA L.length wcp) L.length (prs L) ∧ Below w.heap.size w wx ∧ B5 ≤ wx.heap.size ∧ b < B5 ∧ w.heap.size ≤ B5
theorem LoRel.below {w wx w' : World} {b B5 : Nat} {A : Option Addr} {n cap : Nat} {RA : Option Addr} {rn rc : Nat} {ws : List Wsh} {rules : List Int} {OA WA : Option Addr} {wcp : Nat} {L : List (Int × Int)} (h : LoRel w b B5 A n cap RA rn rc ws rules OA WA wcp L wx) (hb : Below wx.heap.size wx w') : LoRel w b B5 A n cap RA rn rc ws rules OA WA wcp L w' :=
  ⟨⟨h.1.1.keep hb, h.1.2.1.below (hb.mono h.2.2.2.1), h.1.2.2.below (hb.mono h.2.2.2.1)⟩, own_below h.2.1 hb, h.2.2.1.trans (hb.mono h.2.2.1.size), Nat.le_trans h.2.2.2.1 hb.size, h.2.2.2.2⟩
theorem LoRel.step {w wx w3 : World} {b B5 : Nat} {A : Option Addr} {n cap : Nat} {RA : Option Addr} {rn rc : Nat} {ws : List Wsh} {rules : List Int} {OA WA : Option Addr} {wcp : Nat} {L : List (Int × Int)} {x y : Int} {WA2 : Option Addr} {wc2 : Nat}
    (h : LoRel w b B5 A n cap RA rn rc ws rules OA WA wcp L wx) (hgrow : (wx.alloc (.cells #[.int .i64 x, .int .i64 y] 35)).grownBy w3 (Value.slice WA L.length wcp).ownBlock)
    (hown : w3.ownsRow B5 35 2 (.slice WA2 (L.length + 1) wc2) (L.length + 1) (prs L ++ [.int .i64 x, .int .i64 y])) : LoRel w b B5 A n cap RA rn rc ws rules OA WA2 wc2 (L ++ [(x, y)]) w3 := by
  obtain ⟨⟨h1, h2, h3⟩, h4, h5, h6, h7, h8⟩ := h
  have hbg : Below B5 wx w3 := ((Below.refl B5 wx).alloc (by omega) _).trans ((Below.refl B5 _).grown hgrow (by simp; omega) (fun r e => (h4.lt _ e).1))
  refine ⟨⟨h1.below hbg h7, h2.below hbg, h3.below hbg⟩, ?_, h5.trans (hbg.mono h8), Nat.le_trans h6 hbg.size, h7, h8⟩
  rw [prs_app, List.length_append]
  exact hown

theorem FaRel.base {w W : World} {bs b gR : Nat} {vp : Value} {A : Option Addr} {n cap : Nat} {RA : Option Addr} {rn rc : Nat} {ws : List Wsh} {rules : List Int}
    (h1 : Blk W b 29 [.slice A n cap, .slice RA rn rc]) (h2 : Blk W (b + 1) 49 [.int .i64 0, .int .i64 96]) (h3 : W.ownsRow bs 51 7 (.slice A n cap) n (wsCells ws)) (h4 : ∀ q, (Value.slice A n cap).ownBlock = some q → q < b)
    (h5 : W.ownsRow (gR + 1) 3 1 (.slice RA rn rc) rn (rules.map i64v)) (h6 : Below w.heap.size w W) (h7 : b + 2 ≤ W.heap.size) :
    FaRel w bs b gR vp A n cap RA rn rc ws rules #[false, false, false, false, false, false, false, false, false, false, false, false] (faF w.heap.size b vp (.agg #[.slice A n cap, .slice RA rn rc]) undef undef undef undef undef undef undef undef undef undef undef) W :=
  ⟨false, false, false, false, false, false, false, false, false, false, false, false, 0, 0, 0, rfl, rfl, ⟨fun h => absurd h (by simp), fun h => h, fun h => h⟩, h1, h2, fun h => absurd h (by simp), fun _ => ⟨h3, h4⟩, fun h => absurd h (by simp), h5, h6, h7⟩

--SFED
set_option maxRecDepth 100000 in
set_option maxHeartbeats 8000000 in
theorem wconfLaw_any (XA : Option Addr) (xn xc bR : Nat) (L : List Wnt) (far : Bool) (w : World) (hL : L.length = xn) (hxc : xn ≤ xc) (hxm : xc ≤ maxLen) (hr : NRd w w.heap.size XA L) (hbR : bR ≤ 255) (ht : Tab w) :
    Calls Tryz.prog 5 #[.agg #[.slice XA xn xc, .int .u8 bR], .bool far] w fun e w' => e = .returned (.bool true) ∧ Below w.heap.size w w' := by
  have hb0 := bw_new (Below.refl _ w) (.cells #[.slice XA xn xc, .int .u8 bR] 24)
  have hbx : Blk (w.alloc (.cells #[.slice XA xn xc, .int .u8 bR] 24)) w.heap.size 24 [.slice XA xn xc, .int .u8 bR] := Blk.new
  have HB0 := Lib.hid hb0
  have HBX := Lib.hid hbx
  have HT0 := Lib.hid (ht.below hb0)
  have HR0 := Lib.hid (hr.below hb0)
  have HL := Lib.hid hL
  have HT := Lib.hid ht
  clear hb0 hbx ht hr hL
  go_enter Tryz.func5, Tryz.ntmps5
  go_wp2_with fail
  refine (wknown_any _ HT0.out).mono ?_
  rintro e w1 ⟨rfl, hk1⟩
  have HB1 := Lib.hid (HB0.out.trans (hk1.mono HB0.out.size))
  have HR1 := Lib.hid (nrd_moreC (HR0.out.below (hk1.mono HB0.out.size)) (Nat.le_trans HB0.out.size hk1.size))
  obtain ⟨x0, x1⟩ := (HBX.out.keep hk1).two
  clear hk1
  go_wp2_with fail
  refine (make_own XA xn xc bR L _ HL.out hxc hxm HR1.out hbR).mono ?_
  rintro e w3 ⟨A, n, cap, RA, rn, rc, rfl, hn, hpb, hk3, hoA, gR, hgR, hoR⟩
  have hlt : (L.take n).length = n := by rw [List.length_take, HL.out]; omega
  have hn5 : n ≤ 5 := by omega
  have hright := mk_right (L := L.take n) (by rw [hlt]; omega) bR
  have hmkl : (mkWs 0 (L.take n)).length = n := by rw [mkWs_length, hlt]
  have hfe := mk_far (L := L.take n) (by rw [hlt]; omega) bR
  obtain ⟨ws, hws⟩ : ∃ ws, ws = mkWs 0 (L.take n) := ⟨_, rfl⟩
  obtain ⟨rules, hrules⟩ : ∃ r, r = ruP bR 5 := ⟨_, rfl⟩
  rw [← hws] at hpb hright hmkl hfe hoA
  rw [← hrules] at hpb hright hfe hoR
  have HWL := Lib.hid hmkl
  have HRL := Lib.hid hpb.rl.symm
  have HFE := Lib.hid hfe
  have HOK := Lib.hid hpb.ok
  have hb3 := HB1.out.trans (hk3.mono HB1.out.size)
  have hb4 := bw_new (Below.refl _ w3) (.cells #[.slice A n cap, .slice RA rn rc] 29)
  obtain ⟨b, hbw⟩ : ∃ b, b = w3.heap.size := ⟨_, rfl⟩
  have hwb : w.heap.size ≤ b := by rw [hbw]; exact hb3.size
  have HX := Lib.hid (show LcRel w b A n cap RA rn rc ws rules (w3.alloc (.cells #[.slice A n cap, .slice RA rn rc] 29)) from
    ⟨by rw [hbw]; exact Blk.new, (hpb.below hb4).more hb4.size, bw_new hb3 _, hwb, by omega, hright⟩)
  have HOA := Lib.hid (own_monoC hoA (show w1.heap.size ≤ w1.heap.size + 3 by omega))
  obtain ⟨bs, hbs⟩ : ∃ bs, bs = w1.heap.size := ⟨_, rfl⟩
  have hbsb : bs ≤ b := by rw [hbs, hbw]; exact hk3.size
  have hwbs : w.heap.size ≤ bs := by rw [hbs]; exact HB1.out.size
  rw [← hbs] at HOA
  have HOR := Lib.hid hoR
  have HB3 := Lib.hid hb3
  clear hk3 x0 x1 HB0 HBX HT0 HR0 HR1 hb3 hb4 hright hn hlt hmkl hfe hws hrules hpb hoA hoR
  obtain ⟨i0, hi, hz0, hz1, hz2⟩ := info_parts infoWish
  have HHI := Lib.hid hi
  have HZ0 := Lib.hid hz0
  have HZ1 := Lib.hid hz1
  have HZ2 := Lib.hid hz2
  clear hi hz0 hz1 hz2 hbs
  go_upto_if 16 with fail
  rw [← hbw]
  go_cut [] (fun wx => ∃ A n cap ws, LcRel w b A n cap RA rn rc ws rules wx)
  case first =>
    cases far with
    | false =>
      go_wp2_with fail
      go_meet
      exact ⟨A, n, cap, ws, HX.out⟩
    | true =>
      have hk4 := bw_new (bw_new (Below.refl w3.heap.size w3) (.cells #[.slice A n cap, .slice RA rn rc] 29)) (.cells #[.int .i64 0, .int .i64 96] 49)
      have hbc : Blk ((w3.alloc (.cells #[.slice A n cap, .slice RA rn rc] 29)).alloc (.cells #[.int .i64 0, .int .i64 96] 49)) (b + 1) 49 [.int .i64 0, .int .i64 96] := by
        have := heap_alloc_new (w3.alloc (.cells #[.slice A n cap, .slice RA rn rc] 29)) (.cells #[.int .i64 0, .int .i64 96] 49)
        rw [World.size_alloc, ← hbw] at this
        exact this
      have HF1 := Lib.hid ((HX.out.1).alloc (.cells #[.int .i64 0, .int .i64 96] 49))
      have HF2 := Lib.hid hbc
      have HF3 := Lib.hid (own_below HOA.out hk4)
      have HF4 := Lib.hid (show ∀ q, (Value.slice A n cap).ownBlock = some q → q < b from fun q e => by have := (HOA.out.lt q e).2; omega)
      have HF5 := Lib.hid (own_below HOR.out hk4)
      have HF6 := Lib.hid (HB3.out.trans (hk4.mono HB3.out.size))
      have HF7 := Lib.hid (show b + 2 ≤ ((w3.alloc (.cells #[.slice A n cap, .slice RA rn rc] 29)).alloc (.cells #[.int .i64 0, .int .i64 96] 49)).heap.size by simp; omega)
      clear hk4 hbc
      go_upto_region 6 with fail
      try rw [← hbw]
    --FAR
      refine wp_regionI 12 #[false, false, false, false, false, false, false, false, false, false, false, false] (fun l a W => FaRel w bs b gR (.agg #[.slice XA xn xc, .int .u8 bR]) A n cap RA rn rc ws rules l a W) (by kernel_rfl) (by kernel_rfl) (by kernel_rfl) (by kernel_rfl) ?_ ?_ ?_ ?_
      · rintro l a W ⟨u0, u1, u2, u3, u4, u5, u6, u7, u8, u9, u10, u11, gS, g2, c2, rfl, _⟩
        rfl
      · exact FaRel.base HF1.out.drew HF2.out.drew (own_below HF3.out (bw_drew (Below.refl _ _))) HF4.out (own_below HF5.out (bw_drew (Below.refl _ _))) (bw_drew HF6.out) HF7.out
      · clear HF1 HF2 HF3 HF4 HF5 HF6 HF7 hbw
        rintro l a W i o ⟨u0, u1, u2, u3, u4, u5, u6, u7, u8, u9, u10, u11, gS, g2, c2, rfl, rfl, hi3, hm⟩ ho hun hall K hK
        have hi : i < 12 := (Array.getElem?_eq_some_iff.1 ho).1
        have HM := Lib.hid hm
        have HI := Lib.hid hi3
        clear hm hi3
        rcases (show i = 0 ∨ i = 1 ∨ i = 2 ∨ i = 3 ∨ i = 4 ∨ i = 5 ∨ i = 6 ∨ i = 7 ∨ i = 8 ∨ i = 9 ∨ i = 10 ∨ i = 11 by omega) with rfl | rfl | rfl | rfl | rfl | rfl | rfl | rfl | rfl | rfl | rfl | rfl
        · obtain rfl := Option.some.inj (show some _ = some o from ho)
          clear hall hun hi ho
          unfold faF
          go_simp
          exact hK.out _ _ ⟨true, u1, u2, u3, u4, u5, u6, u7, u8, u9, u10, u11, gS, g2, c2, rfl, rfl, HI.out, HM.out⟩
        · obtain rfl := Option.some.inj (show some _ = some o from ho)
          obtain rfl : u0 = true := getBC hall 0 rfl
          obtain rfl : u1 = false := by simpa using hun
          clear hall hun hi ho
          cases u11 with
          | true =>
            have h9 := HI.out.2.1 (HI.out.2.2 rfl)
            exact absurd (HI.out.1 h9).2 (by simp)
          | false =>
            obtain ⟨z0, z1⟩ := (show Blk W b 29 [.slice A n cap, .slice RA rn rc] from HM.out.1).two
            unfold faF
            go_simp
            exact hK.out _ _ ⟨true, true, u2, u3, u4, u5, u6, u7, u8, u9, u10, false, gS, g2, c2, rfl, rfl, ⟨fun h => ⟨(HI.out.1 h).1, rfl⟩, HI.out.2⟩, HM.out⟩
        · obtain rfl := Option.some.inj (show some _ = some o from ho)
          clear hall hun hi ho
          unfold faF
          go_simp
          refine (feet_any _ _).mono ?_
          rintro e W' ⟨rfl, hb⟩
          exact hK.out _ _ ⟨u0, u1, true, u3, u4, u5, u6, u7, u8, u9, u10, u11, gS, g2, c2, rfl, rfl, HI.out, FaRel.mem HM.out hb⟩
        · obtain rfl := Option.some.inj (show some _ = some o from ho)
          clear hall hun hi ho
          obtain ⟨z0, z1⟩ := HM.out.2.1.two
          unfold faF
          go_simp
          exact hK.out _ _ ⟨u0, u1, u2, true, u4, u5, u6, u7, u8, u9, u10, u11, gS, g2, c2, rfl, rfl, HI.out, HM.out⟩
        · obtain rfl := Option.some.inj (show some _ = some o from ho)
          obtain rfl : u2 = true := getBC hall 2 rfl
          obtain rfl : u3 = true := getBC hall 3 rfl
          clear hall hun hi ho
          unfold faF
          go_simp
          exact hK.out _ _ ⟨u0, u1, true, true, true, u5, u6, u7, u8, u9, u10, u11, gS, g2, c2, rfl, rfl, HI.out, HM.out⟩
        · obtain rfl := Option.some.inj (show some _ = some o from ho)
          clear hall hun hi ho
          unfold faF
          go_simp
          refine (lowest_any 1 2 _ (by decide) (by decide) (by decide) (by decide)).mono ?_
          rintro e W' ⟨rfl, hb⟩
          exact hK.out _ _ ⟨u0, u1, u2, u3, u4, true, u6, u7, u8, u9, u10, u11, gS, g2, c2, rfl, rfl, HI.out, FaRel.mem HM.out hb⟩
        · obtain rfl := Option.some.inj (show some _ = some o from ho)
          clear hall hun hi ho
          obtain ⟨z0, z1⟩ := HM.out.2.1.two
          unfold faF
          go_simp
          exact hK.out _ _ ⟨u0, u1, u2, u3, u4, u5, true, u7, u8, u9, u10, u11, gS, g2, c2, rfl, rfl, HI.out, HM.out⟩
        · obtain rfl := Option.some.inj (show some _ = some o from ho)
          obtain rfl : u5 = true := getBC hall 5 rfl
          obtain rfl : u6 = true := getBC hall 6 rfl
          clear hall hun hi ho
          unfold faF
          go_simp
          exact hK.out _ _ ⟨u0, u1, u2, u3, u4, true, true, true, u8, u9, u10, u11, gS, g2, c2, rfl, rfl, HI.out, HM.out⟩
        · obtain rfl := Option.some.inj (show some _ = some o from ho)
          obtain rfl : u4 = true := getBC hall 4 rfl
          obtain rfl : u7 = true := getBC hall 7 rfl
          obtain rfl : u8 = false := by simpa using hun
          clear hall hun hi ho
          obtain rfl : u9 = false := by
            have := HI.out.1
            cases u9
            · rfl
            · exact absurd (this rfl).1 (by simp)
          have hm := FaRel.mem HM.out (bw_new (Below.refl _ _) (.cells #[.string ⟨#[108, 111, 119]⟩, .int .i64 0, .string ⟨#[102, 108, 117, 116, 101]⟩, .int .i64 64, .int .i64 1, .int .i64 0, .int .i64 96, .string ⟨#[104, 105, 103, 104]⟩, .int .i64 1, .string ⟨#[102, 108, 117, 116, 101]⟩, .int .i64 1, .int .i64 2, .int .i64 0, .int .i64 96] 51))
          have HN := Lib.hid hm
          have hsz := HM.out.2.2.2.2.2.2.2
          clear hm
          unfold faF
          go_simp
          exact hK.out _ _ ⟨u0, u1, u2, u3, true, u5, u6, true, true, false, u10, u11, W.heap.size, g2, c2, rfl, rfl, ⟨fun h => absurd h (by simp), HI.out.2.1, HI.out.2.2⟩, HN.out.1, HN.out.2.1, fun _ _ => ⟨heap_alloc_new W _, hsz⟩, HN.out.2.2.2⟩
        · obtain rfl := Option.some.inj (show some _ = some o from ho)
          obtain rfl : u1 = true := getBC hall 1 rfl
          obtain rfl : u8 = true := getBC hall 8 rfl
          obtain rfl : u9 = false := by simpa using hun
          clear hall hun hi ho
          obtain rfl : u10 = false := by
            have := HI.out.2.1
            cases u10
            · rfl
            · exact absurd (this rfl) (by simp)
          obtain rfl : u11 = false := by
            have := HI.out.2.2
            cases u11
            · rfl
            · exact absurd (this rfl) (by simp)
          obtain ⟨hS1, hS2⟩ := HM.out.2.2.1 rfl rfl
          obtain ⟨hO1, hO2⟩ := HM.out.2.2.2.1 rfl
          have HS1 := Lib.hid hS1
          have HO1 := Lib.hid hO1
          have HO2 := Lib.hid hO2
          have hsz := HM.out.2.2.2.2.2.2.2
          clear hS1 hO1 hO2
          unfold faF
          refine step_append_lies _ (by rfl) _ _ _ (by rfl) bs 51 i0 (.agg #[.string ⟨#[]⟩, .int .i64 0, .string ⟨#[]⟩, .int .i64 0, .int .i64 0, .int .i64 0, .int .i64 0]) 7 72 Tryz.underlying27 HHI.out HZ0.out HZ1.out HZ2.out rfl (by decide) (.slice A n cap) n (wsCells ws) (by rfl) HO1.out
            ⟨gS, 0, none⟩ 2 2 [.string ⟨#[108, 111, 119]⟩, .int .i64 0, .string ⟨#[102, 108, 117, 116, 101]⟩, .int .i64 64, .int .i64 1, .int .i64 0, .int .i64 96, .string ⟨#[104, 105, 103, 104]⟩, .int .i64 1, .string ⟨#[102, 108, 117, 116, 101]⟩, .int .i64 1, .int .i64 2, .int .i64 0, .int .i64 96] (by rfl) (by rfl) (World.news_of_block (cs := #[.string ⟨#[108, 111, 119]⟩, .int .i64 0, .string ⟨#[102, 108, 117, 116, 101]⟩, .int .i64 64, .int .i64 1, .int .i64 0, .int .i64 96, .string ⟨#[104, 105, 103, 104]⟩, .int .i64 1, .string ⟨#[102, 108, 117, 116, 101]⟩, .int .i64 1, .int .i64 2, .int .i64 0, .int .i64 96]) (t := 51) (fr := (0, 0)) HS1.out) (by simp [Value.oneCell']) (by decide) (by unfold maxLen; omega) (by omega) (by omega) W.heap.size rfl ?_
          intro g cap2 W10 hown hgrow hat hlt
          have hA := fun q e => HO2.out q e
          have hne0 : some b ≠ (Value.slice A n cap).ownBlock := fun e => by have := hA _ e.symm; omega
          have hne1 : some (b + 1) ≠ (Value.slice A n cap).ownBlock := fun e => by have := hA _ e.symm; omega
          refine hK.out _ _ ⟨u0, true, u2, u3, u4, u5, u6, u7, true, true, false, false, gS, g, cap2, rfl, rfl, ⟨fun _ => ⟨rfl, rfl⟩, fun h => absurd h (by simp), fun h => absurd h (by simp)⟩, HM.out.1.grown hgrow hne0, HM.out.2.1.grown hgrow hne1, fun _ h => absurd h (by simp), fun h => absurd h (by simp), fun _ => ?_, HM.out.2.2.2.2.2.1.kept hgrow (own_apart HM.out.2.2.2.2.2.1 HO1.out (by decide)), HM.out.2.2.2.2.2.2.1.trans ((Below.refl w.heap.size W).grown hgrow (by omega) (fun r e => by have := (HO1.out.lt _ e).1; omega)), Nat.le_trans hsz hgrow.size⟩
          have e : wsCells (ws ++ [lowW, highW]) = wsCells ws ++ [.string ⟨#[108, 111, 119]⟩, .int .i64 0, .string ⟨#[102, 108, 117, 116, 101]⟩, .int .i64 64, .int .i64 1, .int .i64 0, .int .i64 96, .string ⟨#[104, 105, 103, 104]⟩, .int .i64 1, .string ⟨#[102, 108, 117, 116, 101]⟩, .int .i64 1, .int .i64 2, .int .i64 0, .int .i64 96] := by simp [wsCells, lowW, highW, Wsh.cells]
          rw [e]
          exact hown
        · obtain rfl := Option.some.inj (show some _ = some o from ho)
          obtain rfl : u9 = true := getBC hall 9 rfl
          obtain rfl : u10 = false := by simpa using hun
          clear hall hun hi ho
          obtain rfl : u11 = false := by
            have := HI.out.2.2
            cases u11
            · rfl
            · exact absurd (this rfl) (by simp)
          unfold faF
          go_simp
          exact hK.out _ _ ⟨u0, u1, u2, u3, u4, u5, u6, u7, u8, true, true, false, gS, g2, c2, rfl, rfl, ⟨HI.out.1, fun _ => rfl, fun h => absurd h (by simp)⟩, HM.out⟩
        · obtain rfl := Option.some.inj (show some _ = some o from ho)
          obtain rfl : u10 = true := getBC hall 10 rfl
          obtain rfl : u9 = true := getBC hall 9 rfl
          obtain rfl : u11 = false := by simpa using hun
          clear hall hun hi ho
          obtain ⟨z0, z1⟩ := (show Blk W b 29 [.slice A n cap, .slice RA rn rc] from HM.out.1).two
          have f0 := HM.out.1.frozen 0
          have hO := HM.out.2.2.2.2.1 rfl
          have HO := Lib.hid hO
          have hg2 : ∀ q, (Value.slice (some ⟨g2, 0, none⟩) (n + 2) c2).ownBlock = some q → q ≠ b := fun q e h => own_blk_neC HO.out HM.out.1 (by decide) (by rw [e, h])
          have hgr : ∀ q, (Value.slice RA rn rc).ownBlock = some q → q ≠ b := fun q e h => own_blk_neC HM.out.2.2.2.2.2.1 HM.out.1 (by decide) (by rw [e, h])
          have HN1 := Lib.hid (HM.out.1.put 0 (.slice (some ⟨g2, 0, none⟩) (n + 2) c2))
          have HN2 := Lib.hid (HM.out.2.1.far (p := ⟨b, 0, none⟩) (by show b + 1 ≠ b; omega) (.slice (some ⟨g2, 0, none⟩) (n + 2) c2))
          have HN3 := Lib.hid (own_far HO.out (p := ⟨b, 0, none⟩) hg2 (.slice (some ⟨g2, 0, none⟩) (n + 2) c2))
          have HN4 := Lib.hid (own_far HM.out.2.2.2.2.2.1 (p := ⟨b, 0, none⟩) hgr (.slice (some ⟨g2, 0, none⟩) (n + 2) c2))
          have HN5 := Lib.hid (bw_set (b := b) (o := 0) HM.out.2.2.2.2.2.2.1 hwb (.slice (some ⟨g2, 0, none⟩) (n + 2) c2))
          have HN6 := Lib.hid (show b + 2 ≤ (W.setCell ⟨b, 0, none⟩ (.slice (some ⟨g2, 0, none⟩) (n + 2) c2)).heap.size by simpa using HM.out.2.2.2.2.2.2.2)
          clear hO hg2 hgr
          unfold faF
          go_simp
          exact hK.out _ _ ⟨u0, u1, u2, u3, u4, u5, u6, u7, u8, true, true, true, gS, g2, c2, rfl, rfl, ⟨fun _ => HI.out.1 rfl, fun _ => rfl, fun _ => rfl⟩, HN1.out, HN2.out, fun _ h => absurd h (by simp), fun h => absurd h (by simp), fun _ => HN3.out, HN4.out, HN5.out, HN6.out⟩
      · clear HF1 HF2 HF3 HF4 HF5 HF6 HF7 hbw
        rintro l a W ⟨u0, u1, u2, u3, u4, u5, u6, u7, u8, u9, u10, u11, gS, g2, c2, rfl, rfl, _, hm⟩ hall
        obtain rfl : u0 = true := hall 0 (by decide)
        obtain rfl : u1 = true := hall 1 (by decide)
        obtain rfl : u2 = true := hall 2 (by decide)
        obtain rfl : u3 = true := hall 3 (by decide)
        obtain rfl : u4 = true := hall 4 (by decide)
        obtain rfl : u5 = true := hall 5 (by decide)
        obtain rfl : u6 = true := hall 6 (by decide)
        obtain rfl : u7 = true := hall 7 (by decide)
        obtain rfl : u8 = true := hall 8 (by decide)
        obtain rfl : u9 = true := hall 9 (by decide)
        obtain rfl : u10 = true := hall 10 (by decide)
        obtain rfl : u11 = true := hall 11 (by decide)
        clear hall
        have HM := Lib.hid hm
        clear hm
        unfold faF
        dsimp only [cv, cond_true]
        go_wp2_with fail
        go_meet
        exact ⟨some ⟨g2, 0, none⟩, n + 2, c2, ws ++ [lowW, highW], HM.out.1, Pb.of_owns (HM.out.2.2.2.2.1 (by simp)) HM.out.2.2.2.2.2.1 (by rw [List.length_append, HWL.out]; rfl) HRL.out (far_ok HOK.out), HM.out.2.2.2.2.2.2.1, by omega, by omega, HFE.out⟩
    --RAF
  case rest =>
    obtain ⟨A, n, cap, ws, hrel⟩ := hcut
    clear HX HOA HOR HWL HRL HFE HOK hbw HHI HZ0 HZ1 HZ2
    have HX := Lib.hid hrel
    obtain ⟨p0, p1⟩ := hrel.1.two
    have hn7 := hrel.2.2.2.2.1
    have HWR := Lib.hid (pbE_right hrel.2.2.2.2.2)
    obtain ⟨i1, hi1, hy0, hy1, hy2⟩ := info_parts infoPair
    have HI1 := Lib.hid hi1
    have HY0 := Lib.hid hy0
    have HY1 := Lib.hid hy1
    have HY2 := Lib.hid hy2
    clear hrel hi1 hy0 hy1 hy2
    go_wp2_with fail
    refine (wconf_any A n cap RA rn rc ws rules _ wc HX.out.2.1 (Nat.le_refl _) (HT.out.below HX.out.2.2.1) HX.out.2.2.2.2.2).mono ?_
    rintro e w5 ⟨OA, oc, rfl, hco⟩
    have hk5 := hco.2.2.1
    obtain ⟨B5, hB5⟩ : ∃ B5, B5 = w5.heap.size := ⟨_, rfl⟩
    have hbwc : b < wc.heap.size := HX.out.1.lt
    have HOC := Lib.hid (show (cfA ws rules n n).length ≤ oc ∧ oc ≤ maxLen from ⟨own_cap hco.1, own_mxC hco.1⟩)
    have HLO := Lib.hid (show LoRel w b B5 A n cap RA rn rc ws rules OA none 0 (cfA ws rules n 0) w5 from
      ⟨⟨HX.out.1.keep hk5, by rw [hB5]; exact (HX.out.2.1.below hk5).more hk5.size, by rw [hB5]; exact own_prd hco.1⟩, World.ownsRow_nil _ _ _ _, HX.out.2.2.1.trans (hk5.mono HX.out.2.2.1.size), by omega, by have := hk5.size; omega, by have := hk5.size; have := HX.out.2.2.1.size; omega⟩)
    clear hco hk5 HX p0 p1 hB5
    obtain ⟨p0, p1⟩ := HLO.out.1.1.two
    go_wp2_with fail
    go_loopw [9, 37] (fun u v wx => ∃ (k : Nat) (WA : Option Addr) (wcp : Nat), k ≤ n ∧ v = .int .i64 k ∧ u = .slice WA (cfA ws rules n k).length wcp ∧ LoRel w b B5 A n cap RA rn rc ws rules OA WA wcp (cfA ws rules n k) wx) (fun _ v _ => n - (intOf v).toNat)
    case atStart => exact ⟨0, _, _, by omega, rfl, rfl, HLO.out⟩
    case round =>
      clear HLO
      obtain ⟨k, WA, wcp, hk, rfl, rfl, hrel⟩ := hrel
      have HX := Lib.hid hrel
      clear hrel p0 p1
      by_cases hlt : k < n
      · go_wp2_with fail
        go_loopw [9, 11] (fun u v wx => ∃ (j : Nat) (WA : Option Addr) (wcp : Nat), k < j ∧ j ≤ n ∧ v = .int .i64 j ∧ u = .slice WA (cfA ws rules n k ++ cfJ ws rules k j).length wcp ∧ LoRel w b B5 A n cap RA rn rc ws rules OA WA wcp (cfA ws rules n k ++ cfJ ws rules k j) wx) (fun _ v _ => n - (intOf v).toNat)
        case atStart => exact ⟨k + 1, WA, wcp, by omega, by omega, by go_num, by rw [cfJ_zero, List.append_nil], by rw [cfJ_zero, List.append_nil]; exact HX.out⟩
        case round =>
          clear HX
          obtain ⟨j, WA, wcp, hkj, hj, rfl, rfl, hrel⟩ := hrel
          have HX := Lib.hid hrel
          have hmx := own_mxC hrel.2.1
          have hcp := own_cap hrel.2.1
          have hlen := cf_len (ws := ws) (rules := rules) (a := k) (j := j) (show n ≤ 14 by omega) hk hj
          obtain ⟨p0, p1⟩ := hrel.1.1.two
          have HTW := Lib.hid (HT.out.below hrel.2.2.1)
          obtain ⟨L', hL⟩ : ∃ L, L = cfA ws rules n k ++ cfJ ws rules k j := ⟨_, rfl⟩
          rw [← hL] at HX hlen hcp ⊢
          have HLE := Lib.hid hL
          clear hrel hL
          rename_i L0
          by_cases hjn : j < n
          · go_wp2_with fail
            have HPW := Lib.hid ((HX.out.1.2.1.below ((bw_new (Below.refl _ wr) (.cells #[.int .i64 (k : Int), .int .i64 (j : Int)] 3)).mono HX.out.2.2.2.1)).more (show B5 ≤ wr.heap.size + 1 by have := HX.out.2.2.2.1; omega))
            have HTW2 := Lib.hid (HTW.out.below (bw_new (Below.refl _ wr) (.cells #[.int .i64 (k : Int), .int .i64 (j : Int)] 3)))
            have hf := fst_two ws rules (k : Int) (j : Int)
            cases hap : apB rules (wat ws (k : Int)) (wat ws (j : Int)) with
            | true =>
              have HBAD := Lib.hid (show badB ws rules (k : Int) (j : Int) = true by unfold badB; rw [hap]; rfl)
              rw [hap, if_pos rfl] at hf
              have HF := Lib.hid hf
              clear hap hf
              refine (lperm_some A n cap RA rn rc ws rules (some ⟨wr.heap.size, 0, none⟩) 2 2 [(k : Int), (j : Int)] (wr.heap.size + 1) _ HPW.out (by simp) HWR.out (by intro i hi; simp only [List.mem_cons, List.not_mem_nil, or_false] at hi; rcases hi with rfl | rfl <;> omega) rfl (ints_rdC [(k : Int), (j : Int)]) (Nat.le_refl _) (by decide) HTW2.out (k : Int) (j : Int) HF.out).mono ?_
              rintro e w2 ⟨rfl, hk2⟩
              have HX2 := Lib.hid ((HX.out.below (bw_new (Below.refl _ _) _)).below hk2)
              clear hk2 p0 p1
              obtain ⟨p0, p1⟩ := HX2.out.1.1.two
              go_wp2_with (at_builtin; refine wpList_append_own _ rfl _ _ 56 rfl B5 35 i1 (.agg #[.int .i64 0, .int .i64 0]) 2 16 Tryz.underlying56 HI1.out HY0.out HY1.out HY2.out rfl (by decide) _ _ _ rfl (own_below HX2.out.2.1 (bw_new (Below.refl _ _) _)) ⟨w2.heap.size, 0, none⟩ 1 1 [.int .i64 k, .int .i64 j] rfl rfl (World.news_of_block (cs := #[.int .i64 (k : Int), .int .i64 (j : Int)]) (t := 35) (fr := (0, 0)) (heap_alloc_new w2 _)) (by simp [Value.oneCell']) (by unfold maxLen; omega) (by omega) (by simp; have := HX2.out.2.2.2.1; omega) ?_)
              intro v' w9 hown hgrow _
              obtain ⟨g, oc2, hv, hoc2⟩ := own_form hown (by omega)
              subst hv
              have HX9 := Lib.hid (HX2.out.step hgrow hown)
              have HL9 := Lib.hid (show L' ++ [((k : Int), (j : Int))] = cfA ws rules n k ++ cfJ ws rules k (j + 1) by rw [cfJ_yes hkj HBAD.out, ← List.append_assoc, HLE.out])
              have HN9 := Lib.hid (show L'.length + 1 = (cfA ws rules n k ++ cfJ ws rules k (j + 1)).length by rw [← HL9.out, List.length_append]; rfl)
              clear hown hgrow
              go_wp2
              go_roundw
              case rel => exact ⟨j + 1, _, _, by omega, by omega, by go_num, by rw [← HN9.out], HL9.out ▸ HX9.out⟩
              case measure => simp [intOf]; omega
            | false =>
              rw [hap, if_neg (by decide)] at hf
              have HF := Lib.hid hf
              have HAP := Lib.hid hap
              clear hap hf
              refine (lperm_none A n cap RA rn rc ws rules (some ⟨wr.heap.size, 0, none⟩) 2 2 [(k : Int), (j : Int)] (wr.heap.size + 1) _ HPW.out (by simp) HWR.out (by intro i hi; simp only [List.mem_cons, List.not_mem_nil, or_false] at hi; rcases hi with rfl | rfl <;> omega) rfl (ints_rdC [(k : Int), (j : Int)]) (Nat.le_refl _) (by decide) HTW2.out HF.out (by decide)).mono ?_
              rintro e w2 ⟨rfl, hk2⟩
              have HX2 := Lib.hid ((HX.out.below (bw_new (Below.refl _ _) _)).below hk2)
              clear hk2 p0 p1
              obtain ⟨p0, p1⟩ := HX2.out.1.1.two
              by_cases hc : costZ ws [(k : Int), (j : Int)] ≤ 128
              · have HBAD := Lib.hid (show badB ws rules (k : Int) (j : Int) = false by unfold badB; rw [HAP.out, decide_eq_false (by omega)]; rfl)
                have HL9 := Lib.hid (show L' = cfA ws rules n k ++ cfJ ws rules k (j + 1) by rw [cfJ_no HBAD.out, HLE.out])
                rw [decide_eq_true hc]
                go_wp2
                go_roundw
                case rel => exact ⟨j + 1, _, _, by omega, by omega, by go_num, by rw [← HL9.out], HL9.out ▸ HX2.out⟩
                case measure => simp [intOf]; omega
              · have HBAD := Lib.hid (show badB ws rules (k : Int) (j : Int) = true by unfold badB; rw [HAP.out, decide_eq_true (by omega)]; rfl)
                rw [decide_eq_false hc]
                go_wp2_with (at_builtin; refine wpList_append_own _ rfl _ _ 56 rfl B5 35 i1 (.agg #[.int .i64 0, .int .i64 0]) 2 16 Tryz.underlying56 HI1.out HY0.out HY1.out HY2.out rfl (by decide) _ _ _ rfl (own_below HX2.out.2.1 (bw_new (Below.refl _ _) _)) ⟨w2.heap.size, 0, none⟩ 1 1 [.int .i64 k, .int .i64 j] rfl rfl (World.news_of_block (cs := #[.int .i64 (k : Int), .int .i64 (j : Int)]) (t := 35) (fr := (0, 0)) (heap_alloc_new w2 _)) (by simp [Value.oneCell']) (by unfold maxLen; omega) (by omega) (by simp; have := HX2.out.2.2.2.1; omega) ?_)
                intro v' w9 hown hgrow _
                obtain ⟨g, oc2, hv, hoc2⟩ := own_form hown (by omega)
                subst hv
                have HX9 := Lib.hid (HX2.out.step hgrow hown)
                have HL9 := Lib.hid (show L' ++ [((k : Int), (j : Int))] = cfA ws rules n k ++ cfJ ws rules k (j + 1) by rw [cfJ_yes hkj HBAD.out, ← List.append_assoc, HLE.out])
                have HN9 := Lib.hid (show L'.length + 1 = (cfA ws rules n k ++ cfJ ws rules k (j + 1)).length by rw [← HL9.out, List.length_append]; rfl)
                clear hown hgrow
                go_wp2
                go_roundw
                case rel => exact ⟨j + 1, _, _, by omega, by omega, by go_num, by rw [← HN9.out], HL9.out ▸ HX9.out⟩
                case measure => simp [intOf]; omega
          · have hjn' : j = n := by omega
            subst hjn'
            have HL9 := Lib.hid (show L' = cfA ws rules j (k + 1) by rw [cfA_succ, HLE.out])
            go_wp2
            go_roundw
            case rel => exact ⟨k + 1, WA, wcp, by omega, by go_num, by rw [← HL9.out], HL9.out ▸ HX.out⟩
            case measure => simp [intOf]; omega
      · have hkn : k = n := by omega
        subst hkn
        have HE := Lib.hid (eqp_any OA WA (cfA ws rules k k).length oc wcp (cfA ws rules k k) wr rfl (HX.out.1.2.2.prd HX.out.2.2.2.1) (own_prd HX.out.2.1) HOC.out.1 (own_cap HX.out.2.1) HOC.out.2 (own_mxC HX.out.2.1))
        go_wp2_with fail
        refine HE.out.mono ?_
        rintro e w6 ⟨rfl, hk6⟩
        have HB6 := Lib.hid (HX.out.2.2.1.trans (hk6.mono HX.out.2.2.1.size))
        clear hk6
        go_wp2
        go_ret
        exact ⟨rfl, HB6.out⟩
end Go.Proofs.YtkamepalomkpbaaGreatDoor
