/- Part 28 of 29 of the proof of the law: contracts of the functions that it reaches, and plain facts. Conditions: those that each contract names. -/
import Derived.Test.YtaegjpancbmppaaGreatDoorVerB18
import Derived.Test.YtaegjpancbmppaaGreatDoorVerB19
import Derived.Test.YtaegjpancbmppaaGreatDoorVerB17
import Derived.Test.YtaegjpancbmppaaGreatDoorVerB27
set_option linter.unusedVariables false
set_option linter.unusedSimpArgs false
namespace Go.Proofs.YtaegjpancbmppaaGreatDoor
open Go.RowKit
def fmF (q : Nat) (l : List (Int × Int)) : Int := if l.all (fun x => rgB q x.1 x.2) = true then 0 else 7
theorem fmF_snoc (q : Nat) (l : List (Int × Int)) (x : Int × Int) : fmF q (l ++ [x]) = if rgB q x.1 x.2 = true then fmF q l else 7 := by
 unfold fmF
 rw [List.all_append, List.all_cons, List.all_nil, Bool.and_true]
 by_cases h : rgB q x.1 x.2 = true
 ·rw [h, Bool.and_true, if_pos rfl]
 ·rw [Bool.not_eq_true] at h
  rw [h, Bool.and_false]
  rfl
theorem fmE_eq {q : Nat} (hq : q ≤ 8) (l : List (Int × Int)) : fmE (q : Int) l = fmF q l := by
 unfold fmE fmF
 rw [if_neg (by omega), Int.toNat_natCast]
def wtK (q M1 MY : Nat) (no : List Nat) (S : List (Int × Int)) (i : Nat) : Int := if vrF q M1 MY S = 0 then if (no.take i).all (cvB S) = true then 0 else 20 else vrF q M1 MY S
theorem wt_end {q MY : Nat} {no : List Nat} {S : List (Int × Int)} (hq : q ≤ 8) (ho : ∀ r ∈ no, r < 2 ^ q) (h64 : ∀ x ∈ S, x.2 ≤ 9223372036854775807) (i : Nat) (he : i = no.length ∨ wtK q (rowM no) MY no S i ≠ 0) : wtK q (rowM no) MY no S i = vrE q (rowM no) MY S := by
 unfold wtK vrE at *
 by_cases h0 : vrF q (rowM no) MY S = 0
 ·rw [if_pos h0] at he ⊢
  rw [if_pos h0]
  have hr := vrF_right h0
  have hall := vrH_all hq ho (S := S) fun x hx => ⟨hr x hx, h64 x hx⟩
  by_cases hc : (no.take i).all (cvB S) = true
  ·rw [if_pos hc] at he ⊢
   have hi : i = no.length := he.resolve_right (fun h => h rfl)
   rw [if_pos]
   rw [hi, List.take_length, List.all_eq_true] at hc
   exact hall.2 hc
  ·rw [if_neg hc, if_neg]
   intro h
   refine hc (List.all_eq_true.2 fun r hr' => hall.1 h r (List.mem_of_mem_take hr'))
 ·rw [if_neg h0, if_neg h0]
theorem litT_size (v x : Nat) : (litT v x).size ≤ 2 := by
 unfold litT
 split
 ·rw [Fm.size_eq]; show 1 + sizeL [] ≤ 2; rw [sizeL]; omega
 ·rw [Fm.size_eq]; show 1 + sizeL [Fm.nd 1 (x : Int) []] ≤ 2; rw [sizeL, sizeL, Fm.size_eq]; show 1 + (1 + sizeL [] + 0) ≤ 2; rw [sizeL]; omega
theorem sizeL_bd {B : Nat} : ∀ l : List Fm, (∀ t ∈ l, t.size ≤ B) → sizeL l ≤ l.length * B
 | [], _ => by rw [sizeL]; exact Nat.zero_le _
 | t :: l, h => by
  have h1 := h t (List.mem_cons_self ..)
  have h2 := sizeL_bd l fun s hs => h s (List.mem_cons_of_mem _ hs)
  rw [sizeL, List.length_cons, Nat.succ_mul]
  omega
theorem prod_size (n : Nat) (x : Int × Int) : (prodT n x).size ≤ 1 + n * 2 := by
 rw [Fm.size_eq]
 show 1 + sizeL (litsT x.1.toNat x.2.toNat n) ≤ 1 + n * 2
 have h1 := sizeL_bd (B := 2) (litsT x.1.toNat x.2.toNat n) fun t ht => by
  obtain ⟨y, _, rfl⟩ := List.mem_map.1 ht
  exact litT_size _ _
 have h2 := litsT_len x.1.toNat x.2.toNat n
 omega
theorem fm_nat {q : Nat} (hq : q ≤ 8) : ∀ {S : List (Int × Int)}, (∀ x ∈ S, x.2 ≤ 9223372036854775807) → (S.all fun x => rgB q x.1 x.2) = true → ∃ P : List (Nat × Nat), S = zP P ∧ ∀ x ∈ P, x.1 < 256 ∧ x.2 < 256
 | [], _, _ => ⟨[], rfl, fun _ h => absurd h List.not_mem_nil⟩
 | x :: S, h64, h => by
  rw [List.all_cons, Bool.and_eq_true] at h
  obtain ⟨P, hP, hb⟩ := fm_nat hq (fun y hy => h64 y (List.mem_cons_of_mem _ hy)) h.2
  obtain ⟨a, b, h1, h2, ha, hb', -⟩ := rgB_nat hq (h64 x (List.mem_cons_self ..)) h.1
  have hp := pow_le8 hq
  refine ⟨(a, b) :: P, ?_, ?_⟩
  ·show x :: S = ((a : Int), (b : Int)) :: zP P
   rw [← hP, ← h1, ← h2]
  ·intro y hy
   rcases List.mem_cons.1 hy with rfl | hy
   ·exact ⟨Nat.lt_of_lt_of_le ha hp, Nat.lt_of_lt_of_le hb' hp⟩
   ·exact hb y hy
theorem lterms_ok (A : Option Addr) (m c q : Nat) (S : List (Int × Int)) (w : World) (hq : q ≤ 8) (hL : CqRd w w.heap.size A S) (hm : m = S.length) (hm1 : m ≤ 1000) (h64 : ∀ x ∈ S, x.2 ≤ 9223372036854775807) (hf : fmE (q : Int) S = 0) :
  Calls Tryz.prog 31 #[.slice A m c, .int .i64 (q : Int)] w fun e w' => ∃ (A' : Option Addr) (cp : Nat), e = .returned (.agg #[.int .i64 4, .int .i64 0, .slice A' S.length cp]) ∧ FsR w' (lowB w'.heap.size) A' (S.map (prodT q)) ∧ Below w.heap.size w w' := by
 rw [fmE_eq hq] at hf
 unfold fmF at hf
 obtain ⟨P, hP, hb⟩ := fm_nat hq h64 (by
  by_cases h : (S.all fun x => rgB q x.1 x.2) = true
  ·exact h
  ·rw [if_neg h] at hf; cases hf)
 subst hP
 have hl : (zP P).length = P.length := List.length_map ..
 refine (lterms_any A m c q P w hq hL (by omega) hm1 hb).mono ?_
 rintro e w' ⟨A', cp, rfl, hF, hbw⟩
 exact ⟨A', cp, by rw [hl], hF.mono fun b hb => hb.2, hbw⟩
theorem eqS_ok (q : Nat) (S : List (Int × Int)) (hq : q ≤ 8) (hl : S.length ≤ 100) (A1 A2 : Option Addr) (c1 c2 : Nat) (X : World) (h1 : FsR X (lowB X.heap.size) A1 (S.map (prodT q))) (h2 : FsR X (lowB X.heap.size) A2 (S.map (prodT q))) :
  Calls Tryz.prog 30 #[.agg #[.int .i64 4, .int .i64 0, .slice A1 S.length c1], .agg #[.int .i64 4, .int .i64 0, .slice A2 S.length c2]] X fun e w' => e = .returned (.bool true) ∧ Below X.heap.size X w' := by
 have hs : (Fm.nd 4 0 (S.map (prodT q))).size ≤ 10000 := by
  rw [Fm.size_eq]
  show 1 + sizeL (S.map (prodT q)) ≤ 10000
  have h := sizeL_bd (B := 1 + q * 2) (S.map (prodT q)) fun t ht => by
   obtain ⟨x, _, rfl⟩ := List.mem_map.1 ht
   exact prod_size q x
  rw [List.length_map] at h
  have h3 : S.length * (1 + q * 2) ≤ 100 * 17 := Nat.mul_le_mul hl (by omega)
  omega
 have h := fequal_any 10000 (Fm.nd 4 0 (S.map (prodT q))) hs hs A1 A2 c1 c2 X h1 h2
 have e : ∀ A c, fcL (Fm.nd 4 0 (S.map (prodT q))).k (Fm.nd 4 0 (S.map (prodT q))).a A (Fm.nd 4 0 (S.map (prodT q))).l.length c = [.int .i64 4, .int .i64 0, .slice A S.length c] := fun A c => by
  show fcL 4 0 A (S.map (prodT q)).length c = _
  rw [List.length_map]
 rw [e, e] at h
 exact h
def TmR (W6 : World) (A' : Option Addr) (L : List Fm) (b : Bool) (A2 : Option Addr) (W : World) : Prop := Below W6.heap.size W6 W ∧ FsR W (lowB W.heap.size) A' L ∧ (b = true → FsR W (lowB W.heap.size) A2 L)
theorem TmR.step {W6 W W' : World} {A' A2 : Option Addr} {L : List Fm} {b : Bool} (h : TmR W6 A' L b A2 W) (hb : Below W.heap.size W W') : TmR W6 A' L b A2 W' := ⟨h.1.trans (hb.mono h.1.size), h.2.1.step hb, fun e => (h.2.2 e).step hb⟩
set_option maxRecDepth 1000000 in
set_option maxHeartbeats 8000000 in
theorem lver_any (a on fr : Nat) (As : Option Addr) (ms cs : Nat) (S : List (Int × Int)) (V : World) (ha : a < 256) (h1 : on < 65536) (h2 : fr < 65536) (hS : CqRd V V.heap.size As S) (hms : ms = S.length) (h64 : ∀ x ∈ S, x.2 ≤ 9223372036854775807) :
  Calls Tryz.prog 8 #[.int .u8 (a : Int), .agg #[.int .u16 (on : Int), .int .u16 (fr : Int)], .slice As ms cs] V (LwPost V) := by
 have HK := Lib.hid (fun X => iknown_any X)
 have HS := Lib.hid (And.intro hS (And.intro hms h64))
 obtain ⟨q, hq⟩ : ∃ q, q = a % 5 := ⟨_, rfl⟩
 have hMk := fun X => lMake_any a on fr X ha h1 h2
 unfold MkPost at hMk
 rw [← hq] at hMk
 have hq4 : q ≤ 4 := by omega
 obtain ⟨no, hno⟩ : ∃ x, x = mkOn on (2 ^ q) := ⟨_, rfl⟩
 obtain ⟨nf, hnf⟩ : ∃ x, x = mkFr on fr (2 ^ q) := ⟨_, rfl⟩
 rw [← hno, ← hnf] at hMk
 have HMF := Lib.hid (show MkF q no nf by rw [hno, hnf]; exact mkF_of on fr q)
 have HMK := Lib.hid hMk
 have hm0 := (Hp.start V).new 48 [.int .u16 (on : Int), .int .u16 (fr : Int)]
 simp only [List.nil_append] at hm0
 have HM0 := Lib.hid hm0
 clear hMk hno hnf ha h1 h2 hq hS hms h64 hm0
 go_enter Tryz.func8, Tryz.ntmps8
 go_wp2_with fail
 refine (HK.out _).mono ?_
 rintro e W0 ⟨rfl, hb⟩
 have hp0 := HM0.out.step hb
 have HP0 := Lib.hid hp0
 have u0 : W0.cell? ⟨V.heap.size, 0, none⟩ = some (.int .u16 (on : Int)) := (hp0.at_ 0 rfl).cell 0
 have u1 : W0.cell? ⟨V.heap.size, 1, none⟩ = some (.int .u16 (fr : Int)) := (hp0.at_ 0 rfl).cell 1
 have HB0 := Lib.hid hp0.below
 clear hb hp0
 by_cases h6 : 6 < ms
 ·have h6z : (6 : Int) < (ms : Int) := by omega
  go_wp2_with fail
  refine (HK.out _).mono ?_
  rintro e W1 ⟨rfl, hb⟩
  have HB1 := Lib.hid (HB0.out.trans (hb.mono HB0.out.size))
  clear hb
  go_wp2_with fail
  exact bodyPost_ret (v := .bool true) (by simp [results, Tryz.results8, go_sem]) rfl ⟨rfl, HB1.out⟩
 have h6z : ¬ (6 : Int) < (ms : Int) := by omega
 have hdd : decide ((6 : Int) < (ms : Int)) = false := decide_eq_false h6z
 go_wp2_with fail
 refine (HMK.out _).mono ?_
 rintro e W1 ⟨A, B, c, d, rfl, hc, hc9, hA, hB, hT, hb⟩
 have HT := Lib.hid hT
 have HB1 := Lib.hid (HB0.out.trans (hb.mono HB0.out.size))
 have hm1 := (Hp.start W1).new 26 [.int .i64 (q : Int), .slice A no.length c, .slice B nf.length d]
 simp only [List.nil_append] at hm1
 have HM1 := Lib.hid hm1
 have hck := chk_mk HMF.out (by omega)
 obtain ⟨n, hn⟩ : ∃ n, n = no.length := ⟨_, rfl⟩
 rw [← hn] at HM1
 rw [← hn]
 have HN := Lib.hid hn
 clear hc hc9 hA hB hT hb hm1 HMK hn u0 u1
 go_wp2_with fail
 clear hdd
 obtain ⟨M1, hM1⟩ : ∃ x, x = rowM no := ⟨_, rfl⟩
 obtain ⟨MY, hMY⟩ : ∃ x, x = mayM (zR no) (zR nf) := ⟨_, rfl⟩
 have hwi := fun X (h : Below W1.heap.size W1 X) (a b : Nat) (ha : a < 256) (hb : b < 256) => lwithin_any A B c d no.length nf.length q (zR no) (zR nf) a b X (HT.out.below h) zR_pos zR_pos (by omega) ha hb
 have hve := fun X (h : Below W1.heap.size W1 X) (hS : CqRd X X.heap.size As S) => iVerify_ok A B As c d no.length nf.length q ms cs (zR no) (zR nf) S X (HT.out.below h) hck hS HS.out.2.1 (by omega) HS.out.2.2
 rw [← HN.out, ← hMY] at hwi hve
 rw [zR_on, ← hM1] at hwi hve
 have HWI := Lib.hid hwi
 have HVE := Lib.hid hve
 have HMM := Lib.hid (And.intro hM1 hMY)
 have HSX := Lib.hid (show ∀ X, Below W1.heap.size W1 X → CqRd X X.heap.size As S from fun X h => (HS.out.1.step (HB1.out.trans (h.mono HB1.out.size))))
 have HAL := Lib.hid (show ∀ l : List (Int × Int), ∀ x, fmF q (l ++ [x]) = (if rgB q x.1 x.2 = true then fmF q l else 7) from fun l x => fmF_snoc q l x)
 have HN6 := Lib.hid (show ms ≤ 6 by omega)
 clear hwi hve hM1 hMY hck h6 h6z
 go_loopw [8, 9, 10] (fun y z x wr => ∃ k : Nat, k ≤ ms ∧ x = .int .i64 (k : Int) ∧ y = .int .i64 (vrF q M1 MY (S.take k)) ∧ z = .int .i64 (fmF q (S.take k)) ∧ Hp W1 [(W1.heap.size, 26, [.int .i64 (q : Int), .slice A n c, .slice B nf.length d])] wr) (fun _ _ x _ => ms - (intOf x).toNat)
 case atStart => exact ⟨0, Nat.zero_le _, rfl, rfl, rfl, HM1.out⟩
 case round =>
  obtain ⟨wo, rfl⟩ : ∃ W, W = wr := ⟨_, rfl⟩
  obtain ⟨k, hk, rfl, rfl, rfl, hp⟩ := hrel
  have HP := Lib.hid hp
  clear hp
  by_cases hlt : k < ms
  ·have hkS : k < S.length := by rw [← HS.out.2.1]; exact hlt
   have hkz : (k : Int) < (ms : Int) := by omega
   have HKL := Lib.hid hlt
   obtain ⟨k2, hk2⟩ : ∃ z : Int, z = (k : Int) + 1 := ⟨_, rfl⟩
   have hwk : IntKind.i64.wrap ((k : Int) + 1) = k2 := by rw [hk2]; exact IntWalk.i64_in _ (by have := HN6.out; omega)
   have HK2 := Lib.hid hk2
   obtain ⟨g4, o4, hA4, hg4, hq4⟩ := HSX.out W1 (Below.refl _ _) (Nat.lt_of_le_of_lt (Nat.zero_le _) hkS)
   obtain ⟨p0, p1⟩ := hq4 k hkS
   have hgx : S.getD k (0, 0) = S[k] := by rw [List.getD_eq_getElem?_getD, List.getElem?_eq_getElem hkS]; rfl
   have hx64 := HS.out.2.2 (S[k]) (List.getElem_mem _)
   rw [hgx] at p0 p1
   have htk : S.take (k + 1) = S.take k ++ [S[k]] := List.take_succ_eq_append_getElem hkS
   obtain ⟨x, hx⟩ : ∃ x, x = S[k] := ⟨_, rfl⟩
   rw [← hx] at p0 p1 hx64 htk
   obtain ⟨c', v'⟩ := x
   dsimp only at p0 p1 hx64
   have hvf := vrF_snoc q M1 MY (c', v') (S.take k)
   have hff := fmF_snoc q (S.take k) (c', v')
   rw [← htk] at hvf hff
   have HXI := Lib.hid (show ∀ X, Below W1.heap.size W1 X → X.cell? ⟨g4, o4 + k * 2, none⟩ = some (.int .i64 c') ∧ X.cell? ⟨g4, o4 + k * 2 + 1, none⟩ = some (.int .i64 v') from fun X h => ⟨(h.cell (p := ⟨g4, _, none⟩) hg4).trans p0, (h.cell (p := ⟨g4, _, none⟩) hg4).trans p1⟩)
   obtain ⟨wz, hwz⟩ : ∃ z, z = vrF q M1 MY (S.take k) := ⟨_, rfl⟩
   obtain ⟨fz, hfz⟩ : ∃ z, z = fmF q (S.take k) := ⟨_, rfl⟩
   rw [← hwz] at hvf
   rw [← hfz] at hff
   rw [← hwz, ← hfz]
   have HRI := Lib.hid (fun X => lright_any q c' v' X (by omega))
   obtain ⟨rg, hrg⟩ : ∃ b, b = rgB q c' v' := ⟨_, rfl⟩
   rw [← hrg] at HRI hff
   have HVF := Lib.hid hvf
   have HFF := Lib.hid hff
   have HRG := Lib.hid (And.intro hrg hx64)
   subst hA4
   clear hkS hk2 hlt hk hx hgx hx64 hg4 hq4 p0 p1 htk hvf hff hwz hfz hrg
   go_wp2_with fail
   --R8
   refine wp_regionJ 8 #[false, false, false, false, false, false, false, false] (fun ll aa W => ∃ (m0 m1 m2 m3 m4 m5 m6 m7 : Bool), ll = #[m0, m1, m2, m3, m4, m5, m6, m7] ∧ aa = ({ tmps := #[Value.int IntKind.u8 (a : Int), Value.agg #[Value.int IntKind.u16 (on : Int), Value.int IntKind.u16 (fr : Int)], Value.slice (some { block := g4, off := o4 }) ms cs, undef, Value.pointer (some { block := V.heap.size, off := 0 }), undef, Value.bool false, Value.pointer (some { block := W1.heap.size, off := 0 }), Value.int IntKind.i64 wz, Value.int IntKind.i64 fz, Value.int IntKind.i64 (k : Int), u11, u12, undef, undef, undef, undef, undef, undef, undef, Value.bool true, Value.bool false, Value.bool false, Value.slice (some { block := g4, off := o4 }) ms cs, Value.int IntKind.i64 (ms : Int), Value.bool false, Value.bool false, undef, Value.int IntKind.u8 (a : Int), Value.pointer (some { block := V.heap.size, off := 0 }), Value.int IntKind.u16 (on : Int), Value.pointer (some { block := V.heap.size, off := 1 }), Value.int IntKind.u16 (fr : Int), Value.agg #[Value.int IntKind.i64 (q : Int), Value.slice A n c, Value.slice B nf.length d], Value.int IntKind.i64 (k : Int), Value.slice (some { block := g4, off := o4 }) ms cs, Value.int IntKind.i64 (ms : Int), Value.bool true, u38, u39, cwX m0 (Value.slice (some { block := g4, off := o4 }) ms cs) (u40), cwX m1 (Value.int IntKind.i64 (k : Int)) (u41), cwX m2 (Value.pointer (some ⟨g4, o4 + k * 2, none⟩)) (u42), cwX m3 (Value.agg #[.int .i64 c', .int .i64 v']) (u43), cwX m4 (Value.pointer (some ⟨W1.heap.size, 0, none⟩)) (u44), cwX m5 (Value.int .i64 (q : Int)) (u45), cwX m6 (Value.bool rg) (u46), cwX m7 (Value.bool (!rg)) (u47), u48, u49, u50, u51, u52, u53, u54, u55, u56, u57, u58, u59, u60, u61, u62, u63, u64, u65, u66, undef, undef, undef, undef, undef, undef, undef, undef, undef, undef, undef, undef, undef, undef, undef, undef, undef, undef, undef, undef, undef, undef, undef, undef, undef, undef, undef, undef, undef, undef, undef, undef, undef, undef, undef, undef, undef, undef, undef, undef, undef, undef, undef, undef, undef, undef, undef, undef, undef, undef, undef, undef, undef, undef, undef, undef, undef, undef, undef, undef, undef, undef, undef, undef, undef, undef, undef, undef, undef, undef, undef, undef, undef], defers := [] } : Act) ∧ (True) ∧ Hp W1 [(W1.heap.size, 26, [.int .i64 (q : Int), .slice A n c, .slice B nf.length d])] W) (by kernel_rfl) (by kernel_rfl) (by kernel_rfl) (by kernel_rfl) ?_ ?_ ?_ ?_
   ·rintro ll aa W ⟨m0, m1, m2, m3, m4, m5, m6, m7, rfl, _⟩
    rfl
   ·exact ⟨false, false, false, false, false, false, false, false, rfl, rfl, trivial, (HP.out.drew)⟩
   ·rintro ll aa W i o ⟨m0, m1, m2, m3, m4, m5, m6, m7, rfl, rfl, hi0, hm⟩ ho hun hall K hK
    have hi : i < 8 := (Array.getElem?_eq_some_iff.1 ho).1
    have HM := Lib.hid hm
    have HI := Lib.hid hi0
    clear hm hi0
    rcases (show i = 0 ∨ i = 1 ∨ i = 2 ∨ i = 3 ∨ i = 4 ∨ i = 5 ∨ i = 6 ∨ i = 7 by omega) with rfl | rfl | rfl | rfl | rfl | rfl | rfl | rfl
    ·cases ho
     simp at hun; subst hun
     clear hall hi
     go_simp
     exact hK.out _ _ ⟨true, m1, m2, m3, m4, m5, m6, m7, rfl, rfl, trivial, HM.out⟩
    ·cases ho
     simp at hun; subst hun
     clear hall hi
     go_simp
     exact hK.out _ _ ⟨m0, true, m2, m3, m4, m5, m6, m7, rfl, rfl, trivial, HM.out⟩
    ·cases ho
     cases (getBX hall 0 rfl : m0 = true)
     cases (getBX hall 1 rfl : m1 = true)
     simp at hun; subst hun
     clear hall hi
     go_simp
     exact hK.out _ _ ⟨true, true, true, m3, m4, m5, m6, m7, rfl, rfl, trivial, HM.out⟩
    ·cases ho
     cases (getBX hall 2 rfl : m2 = true)
     simp at hun; subst hun
     clear hall hi
     obtain ⟨y0, y1⟩ := HXI.out W HM.out.below
     go_simp
     exact hK.out _ _ ⟨m0, m1, true, true, m4, m5, m6, m7, rfl, rfl, trivial, HM.out⟩
    ·cases ho
     simp at hun; subst hun
     clear hall hi
     go_simp
     exact hK.out _ _ ⟨m0, m1, m2, m3, true, m5, m6, m7, rfl, rfl, trivial, HM.out⟩
    ·cases ho
     cases (getBX hall 4 rfl : m4 = true)
     simp at hun; subst hun
     clear hall hi
     have t0 : W.cell? ⟨W1.heap.size, 0, none⟩ = some (.int .i64 (q : Int)) := (HM.out.at_ 0 rfl).cell 0
     go_simp
     exact hK.out _ _ ⟨m0, m1, m2, m3, true, true, m6, m7, rfl, rfl, trivial, HM.out⟩
    ·cases ho
     cases (getBX hall 3 rfl : m3 = true)
     cases (getBX hall 5 rfl : m5 = true)
     simp at hun; subst hun
     clear hall hi
     go_simp
     refine (HRI.out W).mono ?_
     rintro e W' ⟨rfl, hb⟩
     have HN' := Lib.hid (HM.out.step hb)
     exact hK.out _ _ ⟨m0, m1, m2, true, m4, true, true, m7, rfl, rfl, trivial, HN'.out⟩
    ·cases ho
     cases (getBX hall 6 rfl : m6 = true)
     simp at hun; subst hun
     clear hall hi
     go_simp
     exact hK.out _ _ ⟨m0, m1, m2, m3, m4, m5, true, true, rfl, rfl, trivial, HM.out⟩
   ·rintro ll aa W ⟨m0, m1, m2, m3, m4, m5, m6, m7, rfl, rfl, _, hm⟩ hall
    cases (hall 0 (by decide) : m0 = true)
    cases (hall 1 (by decide) : m1 = true)
    cases (hall 2 (by decide) : m2 = true)
    cases (hall 3 (by decide) : m3 = true)
    cases (hall 4 (by decide) : m4 = true)
    cases (hall 5 (by decide) : m5 = true)
    cases (hall 6 (by decide) : m6 = true)
    cases (hall 7 (by decide) : m7 = true)
    clear hall
    have HP2 := Lib.hid hm
    clear hm
    dsimp only [cwX, cond_true]
    cases rg with
    | false =>
     have hvx : vrX q M1 MY (c', v') = 7 := by unfold vrX; rw [← HRG.out.1]; rfl
     have HVX := Lib.hid hvx
     clear hvx
     by_cases hw : wz = 0
     ·subst hw
      go_wp2_with fail
      go_roundw
      case rel => exact ⟨k + 1, HKL.out, by rw [HK2.out]; rfl, by rw [HVF.out, if_pos rfl, HVX.out], by rw [HFF.out]; rfl, HP2.out⟩
      case measure => have := HKL.out; have := HK2.out; simp only [intOf]; omega
     ·have hwb : (wz == 0) = false := by rw [beq_eq_false_iff_ne]; exact hw
      have hwb2 : (wz != 0) = true := by rw [bne_iff_ne]; exact hw
      have HW := Lib.hid hw
      clear hw
      go_wp2_with fail
      go_roundw
      case rel => exact ⟨k + 1, HKL.out, by rw [HK2.out]; rfl, by rw [HVF.out, if_neg HW.out], by rw [HFF.out]; rfl, HP2.out⟩
      case measure => have := HKL.out; have := HK2.out; simp only [intOf]; omega
    | true =>
     by_cases hw : wz = 0
     ·subst hw
      obtain ⟨a', b', rfl, rfl, ha, hb, hadn⟩ := rgB_nat (show q ≤ 8 by omega) HRG.out.2 HRG.out.1.symm
      have hpw := pow_le8 (show q ≤ 8 by omega)
      have HWC := Lib.hid (fun X (h : Below W1.heap.size W1 X) => HWI.out X h a' b' (by omega) (by omega))
      have hvx : vrX q M1 MY ((a' : Int), (b' : Int)) = if (impB q MY a' b' && (cM q a' b' &&& M1 != 0)) = true then 0 else 20 := by unfold vrX; rw [← HRG.out.1]; rfl
      obtain ⟨im, him⟩ : ∃ x, x = impB q MY a' b' := ⟨_, rfl⟩
      obtain ⟨mt, hmt⟩ : ∃ x, x = (cM q a' b' &&& M1 != 0) := ⟨_, rfl⟩
      rw [← him, ← hmt] at HWC hvx
      have HVX := Lib.hid hvx
      clear ha hb hadn hpw him hmt hvx
      go_upto_region 13 with fail
      refine wp_regionJ 11 #[false, false, false, false, false, false, false, false, false, false, false] (fun ll aa W => ∃ (m0 m1 m2 m3 m4 m5 m6 m7 m8 m9 m10 : Bool), ll = #[m0, m1, m2, m3, m4, m5, m6, m7, m8, m9, m10] ∧ aa = ({ tmps := #[Value.int IntKind.u8 (a : Int), Value.agg #[Value.int IntKind.u16 (on : Int), Value.int IntKind.u16 (fr : Int)], Value.slice (some { block := g4, off := o4 }) ms cs, undef, Value.pointer (some { block := V.heap.size, off := 0 }), undef, Value.bool false, Value.pointer (some { block := W1.heap.size, off := 0 }), Value.int IntKind.i64 0, Value.int IntKind.i64 fz, Value.int IntKind.i64 (k : Int), cwX m9 (Value.bool im) (u11), cwX m10 (Value.bool mt) (u12), undef, undef, undef, undef, undef, undef, undef, Value.bool true, Value.bool false, Value.bool false, Value.slice (some { block := g4, off := o4 }) ms cs, Value.int IntKind.i64 (ms : Int), Value.bool false, Value.bool false, undef, Value.int IntKind.u8 (a : Int), Value.pointer (some { block := V.heap.size, off := 0 }), Value.int IntKind.u16 (on : Int), Value.pointer (some { block := V.heap.size, off := 1 }), Value.int IntKind.u16 (fr : Int), Value.agg #[Value.int IntKind.i64 (q : Int), Value.slice A n c, Value.slice B nf.length d], Value.int IntKind.i64 (k : Int), Value.slice (some { block := g4, off := o4 }) ms cs, Value.int IntKind.i64 (ms : Int), Value.bool true, u38, u39, Value.slice (some { block := g4, off := o4 }) ms cs, Value.int IntKind.i64 (k : Int), Value.pointer (some { block := g4, off := o4 + k * 2 }), Value.agg #[Value.int IntKind.i64 (a' : Int), Value.int IntKind.i64 (b' : Int)], Value.pointer (some { block := W1.heap.size, off := 0 }), Value.int IntKind.i64 (q : Int), Value.bool true, Value.bool false, u48, u49, Value.int IntKind.i64 0, Value.bool false, cwX m6 (Value.tuple #[.bool im, .bool mt]) (u52), cwX m0 (Value.agg #[Value.int IntKind.i64 (q : Int), Value.slice A n c, Value.slice B nf.length d]) (u53), cwX m1 (Value.slice (some { block := g4, off := o4 }) ms cs) (u54), cwX m2 (Value.int IntKind.i64 (k : Int)) (u55), cwX m3 (Value.pointer (some ⟨g4, o4 + k * 2, none⟩)) (u56), cwX m4 (Value.agg #[.int .i64 (a' : Int), .int .i64 (b' : Int)]) (u57), cwX m5 (Value.tuple #[.bool im, .bool mt]) (u58), cwX m7 (Value.bool im) (u59), cwX m8 (Value.bool mt) (u60), u61, u62, u63, u64, u65, u66, undef, undef, undef, undef, undef, undef, undef, undef, undef, undef, undef, undef, undef, undef, undef, undef, undef, undef, undef, undef, undef, undef, undef, undef, undef, undef, undef, undef, undef, undef, undef, undef, undef, undef, undef, undef, undef, undef, undef, undef, undef, undef, undef, undef, undef, undef, undef, undef, undef, undef, undef, undef, undef, undef, undef, undef, undef, undef, undef, undef, undef, undef, undef, undef, undef, undef, undef, undef, undef, undef, undef, undef, undef], defers := [] } : Act) ∧ (True) ∧ Hp W1 [(W1.heap.size, 26, [.int .i64 (q : Int), .slice A n c, .slice B nf.length d])] W) (by kernel_rfl) (by kernel_rfl) (by kernel_rfl) (by kernel_rfl) ?_ ?_ ?_ ?_
      ·rintro ll aa W ⟨m0, m1, m2, m3, m4, m5, m6, m7, m8, m9, m10, rfl, _⟩
       rfl
      ·exact ⟨false, false, false, false, false, false, false, false, false, false, false, rfl, rfl, trivial, (HP2.out.drew)⟩
      ·rintro ll aa W i o ⟨m0, m1, m2, m3, m4, m5, m6, m7, m8, m9, m10, rfl, rfl, hi0, hm⟩ ho hun hall K hK
       have hi : i < 11 := (Array.getElem?_eq_some_iff.1 ho).1
       have HM := Lib.hid hm
       have HI := Lib.hid hi0
       clear hm hi0
       rcases (show i = 0 ∨ i = 1 ∨ i = 2 ∨ i = 3 ∨ i = 4 ∨ i = 5 ∨ i = 6 ∨ i = 7 ∨ i = 8 ∨ i = 9 ∨ i = 10 by omega) with rfl | rfl | rfl | rfl | rfl | rfl | rfl | rfl | rfl | rfl | rfl
       ·cases ho
        simp at hun; subst hun
        clear hall hi
        have t0 : W.cell? ⟨W1.heap.size, 0, none⟩ = some (.int .i64 (q : Int)) := (HM.out.at_ 0 rfl).cell 0
        have t1 : W.cell? ⟨W1.heap.size, 1, none⟩ = some (.slice A n c) := (HM.out.at_ 0 rfl).cell 1
        have t2 : W.cell? ⟨W1.heap.size, 2, none⟩ = some (.slice B nf.length d) := (HM.out.at_ 0 rfl).cell 2
        go_simp
        exact hK.out _ _ ⟨true, m1, m2, m3, m4, m5, m6, m7, m8, m9, m10, rfl, rfl, trivial, HM.out⟩
       ·cases ho
        simp at hun; subst hun
        clear hall hi
        go_simp
        exact hK.out _ _ ⟨m0, true, m2, m3, m4, m5, m6, m7, m8, m9, m10, rfl, rfl, trivial, HM.out⟩
       ·cases ho
        simp at hun; subst hun
        clear hall hi
        go_simp
        exact hK.out _ _ ⟨m0, m1, true, m3, m4, m5, m6, m7, m8, m9, m10, rfl, rfl, trivial, HM.out⟩
       ·cases ho
        cases (getBX hall 1 rfl : m1 = true)
        cases (getBX hall 2 rfl : m2 = true)
        simp at hun; subst hun
        clear hall hi
        go_simp
        exact hK.out _ _ ⟨m0, true, true, true, m4, m5, m6, m7, m8, m9, m10, rfl, rfl, trivial, HM.out⟩
       ·cases ho
        cases (getBX hall 3 rfl : m3 = true)
        simp at hun; subst hun
        clear hall hi
        obtain ⟨y0, y1⟩ := HXI.out W HM.out.below
        go_simp
        exact hK.out _ _ ⟨m0, m1, m2, true, true, m5, m6, m7, m8, m9, m10, rfl, rfl, trivial, HM.out⟩
       ·cases ho
        cases (getBX hall 0 rfl : m0 = true)
        cases (getBX hall 4 rfl : m4 = true)
        simp at hun; subst hun
        clear hall hi
        go_simp
        refine (HWC.out W HM.out.below).mono ?_
        rintro e W' ⟨rfl, hb⟩
        have HN' := Lib.hid (HM.out.step hb)
        exact hK.out _ _ ⟨true, m1, m2, m3, true, true, m6, m7, m8, m9, m10, rfl, rfl, trivial, HN'.out⟩
       ·cases ho
        cases (getBX hall 5 rfl : m5 = true)
        simp at hun; subst hun
        clear hall hi
        go_simp
        exact hK.out _ _ ⟨m0, m1, m2, m3, m4, true, true, m7, m8, m9, m10, rfl, rfl, trivial, HM.out⟩
       ·cases ho
        cases (getBX hall 6 rfl : m6 = true)
        simp at hun; subst hun
        clear hall hi
        go_simp
        exact hK.out _ _ ⟨m0, m1, m2, m3, m4, m5, true, true, m8, m9, m10, rfl, rfl, trivial, HM.out⟩
       ·cases ho
        cases (getBX hall 6 rfl : m6 = true)
        simp at hun; subst hun
        clear hall hi
        go_simp
        exact hK.out _ _ ⟨m0, m1, m2, m3, m4, m5, true, m7, true, m9, m10, rfl, rfl, trivial, HM.out⟩
       ·cases ho
        cases (getBX hall 0 rfl : m0 = true)
        cases (getBX hall 1 rfl : m1 = true)
        cases (getBX hall 2 rfl : m2 = true)
        cases (getBX hall 3 rfl : m3 = true)
        cases (getBX hall 4 rfl : m4 = true)
        cases (getBX hall 5 rfl : m5 = true)
        cases (getBX hall 6 rfl : m6 = true)
        cases (getBX hall 7 rfl : m7 = true)
        simp at hun; subst hun
        clear hall hi
        go_simp
        exact hK.out _ _ ⟨true, true, true, true, true, true, true, true, m8, true, m10, rfl, rfl, trivial, HM.out⟩
       ·cases ho
        cases (getBX hall 0 rfl : m0 = true)
        cases (getBX hall 1 rfl : m1 = true)
        cases (getBX hall 2 rfl : m2 = true)
        cases (getBX hall 3 rfl : m3 = true)
        cases (getBX hall 4 rfl : m4 = true)
        cases (getBX hall 5 rfl : m5 = true)
        cases (getBX hall 6 rfl : m6 = true)
        cases (getBX hall 7 rfl : m7 = true)
        cases (getBX hall 8 rfl : m8 = true)
        cases (getBX hall 9 rfl : m9 = true)
        simp at hun; subst hun
        clear hall hi
        go_simp
        exact hK.out _ _ ⟨true, true, true, true, true, true, true, true, true, true, true, rfl, rfl, trivial, HM.out⟩
      ·rintro ll aa W ⟨m0, m1, m2, m3, m4, m5, m6, m7, m8, m9, m10, rfl, rfl, _, hm⟩ hall
       cases (hall 0 (by decide) : m0 = true)
       cases (hall 1 (by decide) : m1 = true)
       cases (hall 2 (by decide) : m2 = true)
       cases (hall 3 (by decide) : m3 = true)
       cases (hall 4 (by decide) : m4 = true)
       cases (hall 5 (by decide) : m5 = true)
       cases (hall 6 (by decide) : m6 = true)
       cases (hall 7 (by decide) : m7 = true)
       cases (hall 8 (by decide) : m8 = true)
       cases (hall 9 (by decide) : m9 = true)
       cases (hall 10 (by decide) : m10 = true)
       clear hall
       have HP3 := Lib.hid hm
       clear hm
       dsimp only [cwX, cond_true]
       cases im <;> cases mt
       all_goals
        go_wp2_with fail
        go_roundw
        case rel => exact ⟨k + 1, HKL.out, by rw [HK2.out]; rfl, by rw [HVF.out, if_pos rfl, HVX.out]; rfl, by rw [HFF.out]; rfl, HP3.out⟩
        case measure => have := HKL.out; have := HK2.out; simp only [intOf]; omega
     ·have hwb : (wz != 0) = true := by rw [bne_iff_ne]; exact hw
      have HW := Lib.hid hw
      clear hw
      go_wp2_with fail
      go_roundw
      case rel => exact ⟨k + 1, HKL.out, by rw [HK2.out]; rfl, by rw [HVF.out, if_neg HW.out], by rw [HFF.out]; rfl, HP2.out⟩
      case measure => have := HKL.out; have := HK2.out; simp only [intOf]; omega
  ·obtain rfl : k = ms := by omega
   have hkz : ¬ (k : Int) < (k : Int) := by omega
   --L2
   have htk : S.take k = S := List.take_of_length_le (by rw [HS.out.2.1]; exact Nat.le_refl _)
   rw [htk]
   have HFO := Lib.hid (fun X (h : Below W1.heap.size W1 X) => iFormula_any As k cs q S X (by omega) (HSX.out X h) HS.out.2.1 (by have := HN6.out; omega) HS.out.2.2)
   have HF9 := Lib.hid (fun X => iFormula_range As k cs 9 S X (.inr (by decide)))
   obtain ⟨ff, hff⟩ : ∃ z, z = fmF q S := ⟨_, rfl⟩
   have HFF := Lib.hid (show ff = fmE (q : Int) S by rw [hff]; exact (fmE_eq (by omega) S).symm)
   rw [← hff]
   have hwt0 : vrF q M1 MY S = wtK q M1 MY no S 0 := by
    unfold wtK
    by_cases h : vrF q M1 MY S = 0
    ·rw [if_pos h, h]; rfl
    ·rw [if_neg h]
   rw [hwt0]
   have HWE := Lib.hid (fun i he => wt_end (q := q) (MY := MY) (no := no) (S := S) (by omega) HMF.out.on HS.out.2.2 i he)
   rw [← HMM.out.1] at HWE
   have hn1000 : n ≤ 1000 := by rw [HN.out]; have := HT.out.nm.1; omega
   have HNB := Lib.hid (show ∀ r ∈ no, r < 256 from fun r hr => Nat.lt_of_lt_of_le (HMF.out.on r hr) (pow_le8 (by omega)))
   clear hlt hk htk hff hwt0
   go_wp2_with fail
   go_loopw [8, 13] (fun y x wr => ∃ i : Nat, i ≤ n ∧ x = .int .i64 (i : Int) ∧ y = .int .i64 (wtK q M1 MY no S i) ∧ Hp W1 [(W1.heap.size, 26, [.int .i64 (q : Int), .slice A n c, .slice B nf.length d])] wr) (fun _ x _ => n - (intOf x).toNat)
   case atStart => exact ⟨0, Nat.zero_le _, rfl, rfl, HP.out⟩
   case round =>
    obtain ⟨wn, rfl⟩ : ∃ W, W = wr := ⟨_, rfl⟩
    obtain ⟨i, hi, rfl, rfl, hp⟩ := hrel
    have HPI := Lib.hid hp
    have t1 : wn.cell? ⟨W1.heap.size, 1, none⟩ = some (.slice A n c) := (hp.at_ 0 rfl).cell 1
    clear hp
    by_cases hil : i < n
    ·have hiz : (i : Int) < (n : Int) := by omega
     by_cases hw0 : wtK q M1 MY no S i = 0
     ·have hiN : i < no.length := by rw [← HN.out]; exact hil
      have hiL : i < (zR no).length := by rw [List.length_map]; exact hiN
      obtain ⟨r, hr⟩ : ∃ r, r = no[i] := ⟨_, rfl⟩
      have hr256 : r < 256 := HNB.out r (by rw [hr]; exact List.getElem_mem hiN)
      obtain ⟨b0, off0, hA2, hbb, hcc⟩ := HT.out.on (Nat.lt_of_le_of_lt (Nat.zero_le _) hiL)
      have hck := hcc i hiL
      rw [show (zR no)[i] = (r : Int) by rw [hr, List.getElem_map]; rfl] at hck
      replace hck : W1.cell? ⟨b0, off0 + i, none⟩ = some (.int .i64 (r : Int)) := hck
      have HXA := Lib.hid (show ∀ X, Below W1.heap.size W1 X → X.cell? ⟨b0, off0 + i, none⟩ = some (.int .i64 (r : Int)) from fun X h => (h.cell (p := ⟨b0, off0 + i, none⟩) hbb).trans hck)
      have hf0 : vrF q M1 MY S = 0 := by
       have := hw0
       unfold wtK at this
       by_cases h : vrF q M1 MY S = 0
       ·exact h
       ·rw [if_neg h] at this; exact this
      have hc0 : (no.take i).all (cvB S) = true := by
       have := hw0
       unfold wtK at this
       rw [if_pos hf0] at this
       by_cases h : (no.take i).all (cvB S) = true
       ·exact h
       ·rw [if_neg h] at this; cases this
      have hst : wtK q M1 MY no S (i + 1) = if cvB S r = true then 0 else 20 := by
       unfold wtK
       rw [if_pos hf0, List.take_succ_eq_append_getElem hiN, List.all_append, hc0, ← hr, List.all_cons, List.all_nil, Bool.and_true, Bool.true_and]
      have HST := Lib.hid hst
      rw [hw0]
      have HIL := Lib.hid hil
      obtain ⟨i2, hi2⟩ : ∃ z : Int, z = (i : Int) + 1 := ⟨_, rfl⟩
      have hwi2 : IntKind.i64.wrap ((i : Int) + 1) = i2 := by rw [hi2]; exact IntWalk.i64_in _ (by omega)
      have HI2 := Lib.hid hi2
      subst hA2
      clear hiN hiL hr hbb hcc hck hf0 hc0 hst hw0 hi2 hil hi
      go_wp2_with fail
      go_loopw [14, 15] (fun y x wx => ∃ j : Nat, j ≤ k ∧ x = .int .i64 (j : Int) ∧ y = .bool ((S.take j).any fun x => bits .and .i64 (r : Int) x.1 == x.2) ∧ Hp W1 [(W1.heap.size, 26, [.int .i64 (q : Int), .slice (some ⟨b0, off0, none⟩) n c, .slice B nf.length d])] wx) (fun _ x _ => k - (intOf x).toNat)
      case atStart => exact ⟨0, Nat.zero_le _, rfl, rfl, HPI.out⟩
      case round =>
       obtain ⟨wj, rfl⟩ : ∃ W, W = wr := ⟨_, rfl⟩
       obtain ⟨j, hj, rfl, rfl, hp⟩ := hrel
       have HPJ := Lib.hid hp
       clear hp t1
       by_cases hjl : j < k
       ·have hjS : j < S.length := by rw [← HS.out.2.1]; exact hjl
        have hjz : (j : Int) < (k : Int) := by omega
        have HJL := Lib.hid hjl
        obtain ⟨j2, hj2⟩ : ∃ z : Int, z = (j : Int) + 1 := ⟨_, rfl⟩
        have hwj : IntKind.i64.wrap ((j : Int) + 1) = j2 := by rw [hj2]; exact IntWalk.i64_in _ (by have := HN6.out; omega)
        have HJ2 := Lib.hid hj2
        obtain ⟨g4, o4, hA4, hg4, hq4⟩ := HSX.out W1 (Below.refl _ _) (Nat.lt_of_le_of_lt (Nat.zero_le _) hjS)
        obtain ⟨p0, p1⟩ := hq4 j hjS
        have hgx : S.getD j (0, 0) = S[j] := by rw [List.getD_eq_getElem?_getD, List.getElem?_eq_getElem hjS]; rfl
        rw [hgx] at p0 p1
        have htk : S.take (j + 1) = S.take j ++ [S[j]] := List.take_succ_eq_append_getElem hjS
        obtain ⟨x, hx⟩ : ∃ x, x = S[j] := ⟨_, rfl⟩
        rw [← hx] at p0 p1 htk
        obtain ⟨c', v'⟩ := x
        dsimp only at p0 p1
        have HXI := Lib.hid (show ∀ X, Below W1.heap.size W1 X → X.cell? ⟨g4, o4 + j * 2, none⟩ = some (.int .i64 c') ∧ X.cell? ⟨g4, o4 + j * 2 + 1, none⟩ = some (.int .i64 v') from fun X h => ⟨(h.cell (p := ⟨g4, _, none⟩) hg4).trans p0, (h.cell (p := ⟨g4, _, none⟩) hg4).trans p1⟩)
        have HLH := Lib.hid (fun X => lhas_any c' v' (r : Int) X)
        obtain ⟨tt, htt⟩ : ∃ b, b = (bits .and .i64 (r : Int) c' == v') := ⟨_, rfl⟩
        rw [← htt] at HLH
        obtain ⟨cv, hcv⟩ : ∃ b, b = ((S.take j).any fun x => bits .and .i64 (r : Int) x.1 == x.2) := ⟨_, rfl⟩
        have HCV := Lib.hid (show ((S.take (j + 1)).any fun x => bits .and .i64 (r : Int) x.1 == x.2) = (cv || tt) by rw [htk, List.any_append, ← hcv, List.any_cons, List.any_nil, Bool.or_false, ← htt])
        rw [← hcv]
        subst hA4
        clear hjS hj2 hjl hj hx hgx hg4 hq4 p0 p1 htk htt hcv
        cases cv with
        | true =>
         go_upto_region 23 with fail
         --R23A
         refine wp_regionJ 14 #[false, false, false, false, false, false, false, false, false, false, false, false, false, false] (fun ll aa W => ∃ (m0 m1 m2 m3 m4 m5 m6 m7 m8 m9 m10 m11 m12 m13 : Bool), ll = #[m0, m1, m2, m3, m4, m5, m6, m7, m8, m9, m10, m11, m12, m13] ∧ aa = ({ tmps := #[Value.int IntKind.u8 (a : Int), Value.agg #[Value.int IntKind.u16 (on : Int), Value.int IntKind.u16 (fr : Int)], Value.slice (some { block := g4, off := o4 }) k cs, undef, Value.pointer (some { block := V.heap.size, off := 0 }), undef, Value.bool false, Value.pointer (some { block := W1.heap.size, off := 0 }), Value.int IntKind.i64 0, Value.int IntKind.i64 ff, Value.int IntKind.i64 (k : Int), u11, u12, Value.int IntKind.i64 (i : Int), Value.bool true, Value.int IntKind.i64 (j : Int), undef, undef, undef, undef, Value.bool true, Value.bool false, Value.bool false, Value.slice (some { block := g4, off := o4 }) k cs, Value.int IntKind.i64 (k : Int), Value.bool false, Value.bool false, undef, Value.int IntKind.u8 (a : Int), Value.pointer (some { block := V.heap.size, off := 0 }), Value.int IntKind.u16 (on : Int), Value.pointer (some { block := V.heap.size, off := 1 }), Value.int IntKind.u16 (fr : Int), Value.agg #[Value.int IntKind.i64 (q : Int), Value.slice (some { block := b0, off := off0 }) n c, Value.slice B nf.length d], Value.int IntKind.i64 (k : Int), Value.slice (some { block := g4, off := o4 }) k cs, Value.int IntKind.i64 (k : Int), Value.bool false, u38, u39, u40, u41, u42, u43, u44, u45, u46, u47, u48, u49, u50, u51, u52, u53, u54, u55, u56, u57, u58, u59, u60, u61, u62, u63, u64, u65, u66, Value.int IntKind.i64 (i : Int), Value.pointer (some { block := W1.heap.size, off := 1 }), Value.slice (some { block := b0, off := off0 }) n c, Value.int IntKind.i64 (n : Int), Value.bool true, Value.bool true, Value.int IntKind.i64 0, Value.bool true, Value.bool true, u76, u77, Value.int IntKind.i64 (j : Int), Value.slice (some { block := g4, off := o4 }) k cs, Value.int IntKind.i64 (k : Int), Value.bool true, u82, u83, cwX m0 (Value.bool true) (u84), cwX m1 (Value.bool true) (u85), cwX m2 (undef) (u86), cwX m3 (undef) (u87), cwX m4 (undef) (u88), cwX m5 (undef) (u89), cwX m6 (undef) (u90), cwX m7 (undef) (u91), cwX m8 (undef) (u92), cwX m9 (undef) (u93), cwX m10 (undef) (u94), cwX m11 (undef) (u95), cwX m12 (Value.bool true) (u96), u97, u98, undef, undef, undef, undef, undef, undef, undef, undef, undef, undef, undef, undef, undef, undef, undef, undef, undef, undef, undef, undef, undef, undef, undef, undef, undef, undef, undef, undef, undef, undef, undef, undef, undef, undef, undef, undef, undef, undef, undef, undef, undef], defers := [] } : Act) ∧ (True) ∧ Hp W1 [(W1.heap.size, 26, [.int .i64 (q : Int), .slice (some ⟨b0, off0, none⟩) n c, .slice B nf.length d])] W) (by kernel_rfl) (by kernel_rfl) (by kernel_rfl) (by kernel_rfl) ?_ ?_ ?_ ?_
         ·rintro ll aa W ⟨m0, m1, m2, m3, m4, m5, m6, m7, m8, m9, m10, m11, m12, m13, rfl, _⟩
          rfl
         ·exact ⟨false, false, false, false, false, false, false, false, false, false, false, false, false, false, rfl, rfl, trivial, (HPJ.out.drew)⟩
         ·rintro ll aa W i o ⟨m0, m1, m2, m3, m4, m5, m6, m7, m8, m9, m10, m11, m12, m13, rfl, rfl, hi0, hm⟩ ho hun hall K hK
          have hi : i < 14 := (Array.getElem?_eq_some_iff.1 ho).1
          have HM := Lib.hid hm
          have HI := Lib.hid hi0
          clear hm hi0
          rcases (show i = 0 ∨ i = 1 ∨ i = 2 ∨ i = 3 ∨ i = 4 ∨ i = 5 ∨ i = 6 ∨ i = 7 ∨ i = 8 ∨ i = 9 ∨ i = 10 ∨ i = 11 ∨ i = 12 ∨ i = 13 by omega) with rfl | rfl | rfl | rfl | rfl | rfl | rfl | rfl | rfl | rfl | rfl | rfl | rfl | rfl
          ·cases ho
           simp at hun; subst hun
           clear hall hi
           go_simp
           exact hK.out _ _ ⟨true, m1, m2, m3, m4, m5, m6, m7, m8, m9, m10, m11, m12, m13, rfl, rfl, trivial, HM.out⟩
          ·cases ho
           cases (getBX hall 0 rfl : m0 = true)
           simp at hun; subst hun
           clear hall hi
           go_simp
           exact hK.out _ _ ⟨true, true, m2, m3, m4, m5, m6, m7, m8, m9, m10, m11, m12, m13, rfl, rfl, trivial, HM.out⟩
          ·cases ho
           cases (getBX hall 1 rfl : m1 = true)
           simp at hun; subst hun
           clear hall hi
           go_simp
           exact hK.out _ _ ⟨m0, true, true, m3, m4, m5, m6, m7, m8, m9, m10, m11, m12, m13, rfl, rfl, trivial, HM.out⟩
          ·cases ho
           cases (getBX hall 1 rfl : m1 = true)
           simp at hun; subst hun
           clear hall hi
           go_simp
           exact hK.out _ _ ⟨m0, true, m2, true, m4, m5, m6, m7, m8, m9, m10, m11, m12, m13, rfl, rfl, trivial, HM.out⟩
          ·cases ho
           cases (getBX hall 1 rfl : m1 = true)
           cases (getBX hall 2 rfl : m2 = true)
           cases (getBX hall 3 rfl : m3 = true)
           simp at hun; subst hun
           clear hall hi
           go_simp
           exact hK.out _ _ ⟨m0, true, true, true, true, m5, m6, m7, m8, m9, m10, m11, m12, m13, rfl, rfl, trivial, HM.out⟩
          ·cases ho
           cases (getBX hall 1 rfl : m1 = true)
           cases (getBX hall 4 rfl : m4 = true)
           simp at hun; subst hun
           clear hall hi
           go_simp
           exact hK.out _ _ ⟨m0, true, m2, m3, true, true, m6, m7, m8, m9, m10, m11, m12, m13, rfl, rfl, trivial, HM.out⟩
          ·cases ho
           cases (getBX hall 1 rfl : m1 = true)
           simp at hun; subst hun
           clear hall hi
           go_simp
           exact hK.out _ _ ⟨m0, true, m2, m3, m4, m5, true, m7, m8, m9, m10, m11, m12, m13, rfl, rfl, trivial, HM.out⟩
          ·cases ho
           cases (getBX hall 1 rfl : m1 = true)
           cases (getBX hall 6 rfl : m6 = true)
           simp at hun; subst hun
           clear hall hi
           go_simp
           exact hK.out _ _ ⟨m0, true, m2, m3, m4, m5, true, true, m8, m9, m10, m11, m12, m13, rfl, rfl, trivial, HM.out⟩
          ·cases ho
           cases (getBX hall 1 rfl : m1 = true)
           simp at hun; subst hun
           clear hall hi
           go_simp
           exact hK.out _ _ ⟨m0, true, m2, m3, m4, m5, m6, m7, true, m9, m10, m11, m12, m13, rfl, rfl, trivial, HM.out⟩
          ·cases ho
           cases (getBX hall 1 rfl : m1 = true)
           cases (getBX hall 7 rfl : m7 = true)
           cases (getBX hall 8 rfl : m8 = true)
           simp at hun; subst hun
           clear hall hi
           go_simp
           exact hK.out _ _ ⟨m0, true, m2, m3, m4, m5, m6, true, true, true, m10, m11, m12, m13, rfl, rfl, trivial, HM.out⟩
          ·cases ho
           cases (getBX hall 1 rfl : m1 = true)
           cases (getBX hall 9 rfl : m9 = true)
           simp at hun; subst hun
           clear hall hi
           go_simp
           exact hK.out _ _ ⟨m0, true, m2, m3, m4, m5, m6, m7, m8, true, true, m11, m12, m13, rfl, rfl, trivial, HM.out⟩
          ·cases ho
           cases (getBX hall 1 rfl : m1 = true)
           cases (getBX hall 5 rfl : m5 = true)
           cases (getBX hall 10 rfl : m10 = true)
           simp at hun; subst hun
           clear hall hi
           go_simp
           exact hK.out _ _ ⟨m0, true, m2, m3, m4, true, m6, m7, m8, m9, true, true, m12, m13, rfl, rfl, trivial, HM.out⟩
          ·cases ho
           cases (getBX hall 1 rfl : m1 = true)
           cases (getBX hall 11 rfl : m11 = true)
           simp at hun; subst hun
           clear hall hi
           go_simp
           exact hK.out _ _ ⟨m0, true, m2, m3, m4, m5, m6, m7, m8, m9, m10, true, true, m13, rfl, rfl, trivial, HM.out⟩
          ·cases ho
           cases (getBX hall 0 rfl : m0 = true)
           cases (getBX hall 1 rfl : m1 = true)
           cases (getBX hall 2 rfl : m2 = true)
           cases (getBX hall 3 rfl : m3 = true)
           cases (getBX hall 4 rfl : m4 = true)
           cases (getBX hall 5 rfl : m5 = true)
           cases (getBX hall 6 rfl : m6 = true)
           cases (getBX hall 7 rfl : m7 = true)
           cases (getBX hall 8 rfl : m8 = true)
           cases (getBX hall 9 rfl : m9 = true)
           cases (getBX hall 10 rfl : m10 = true)
           cases (getBX hall 11 rfl : m11 = true)
           cases (getBX hall 12 rfl : m12 = true)
           simp at hun; subst hun
           clear hall hi
           go_simp
           exact hK.out _ _ ⟨true, true, true, true, true, true, true, true, true, true, true, true, true, true, rfl, rfl, trivial, HM.out⟩
         ·rintro ll aa W ⟨m0, m1, m2, m3, m4, m5, m6, m7, m8, m9, m10, m11, m12, m13, rfl, rfl, _, hm⟩ hall
          cases (hall 0 (by decide) : m0 = true)
          cases (hall 1 (by decide) : m1 = true)
          cases (hall 2 (by decide) : m2 = true)
          cases (hall 3 (by decide) : m3 = true)
          cases (hall 4 (by decide) : m4 = true)
          cases (hall 5 (by decide) : m5 = true)
          cases (hall 6 (by decide) : m6 = true)
          cases (hall 7 (by decide) : m7 = true)
          cases (hall 8 (by decide) : m8 = true)
          cases (hall 9 (by decide) : m9 = true)
          cases (hall 10 (by decide) : m10 = true)
          cases (hall 11 (by decide) : m11 = true)
          cases (hall 12 (by decide) : m12 = true)
          cases (hall 13 (by decide) : m13 = true)
          clear hall
          have HME := Lib.hid hm
          clear hm
          dsimp only [cwX, cond_true]
          go_wp2_with fail
          go_roundw
          case rel => exact ⟨j + 1, HJL.out, by rw [HJ2.out]; rfl, by rw [HCV.out]; rfl, HME.out⟩
          case measure => have := HJL.out; have := HJ2.out; simp only [intOf]; omega
        | false =>
         go_upto_region 23 with fail
         --R23B
         refine wp_regionJ 14 #[false, false, false, false, false, false, false, false, false, false, false, false, false, false] (fun ll aa W => ∃ (m0 m1 m2 m3 m4 m5 m6 m7 m8 m9 m10 m11 m12 m13 : Bool), ll = #[m0, m1, m2, m3, m4, m5, m6, m7, m8, m9, m10, m11, m12, m13] ∧ aa = ({ tmps := #[Value.int IntKind.u8 (a : Int), Value.agg #[Value.int IntKind.u16 (on : Int), Value.int IntKind.u16 (fr : Int)], Value.slice (some { block := g4, off := o4 }) k cs, undef, Value.pointer (some { block := V.heap.size, off := 0 }), undef, Value.bool false, Value.pointer (some { block := W1.heap.size, off := 0 }), Value.int IntKind.i64 0, Value.int IntKind.i64 ff, Value.int IntKind.i64 (k : Int), u11, u12, Value.int IntKind.i64 (i : Int), cwX m13 (Value.bool tt) (Value.bool false), Value.int IntKind.i64 (j : Int), undef, undef, undef, undef, Value.bool true, Value.bool false, Value.bool false, Value.slice (some { block := g4, off := o4 }) k cs, Value.int IntKind.i64 (k : Int), Value.bool false, Value.bool false, undef, Value.int IntKind.u8 (a : Int), Value.pointer (some { block := V.heap.size, off := 0 }), Value.int IntKind.u16 (on : Int), Value.pointer (some { block := V.heap.size, off := 1 }), Value.int IntKind.u16 (fr : Int), Value.agg #[Value.int IntKind.i64 (q : Int), Value.slice (some { block := b0, off := off0 }) n c, Value.slice B nf.length d], Value.int IntKind.i64 (k : Int), Value.slice (some { block := g4, off := o4 }) k cs, Value.int IntKind.i64 (k : Int), Value.bool false, u38, u39, u40, u41, u42, u43, u44, u45, u46, u47, u48, u49, u50, u51, u52, u53, u54, u55, u56, u57, u58, u59, u60, u61, u62, u63, u64, u65, u66, Value.int IntKind.i64 (i : Int), Value.pointer (some { block := W1.heap.size, off := 1 }), Value.slice (some { block := b0, off := off0 }) n c, Value.int IntKind.i64 (n : Int), Value.bool true, Value.bool true, Value.int IntKind.i64 0, Value.bool true, Value.bool true, u76, u77, Value.int IntKind.i64 (j : Int), Value.slice (some { block := g4, off := o4 }) k cs, Value.int IntKind.i64 (k : Int), Value.bool true, u82, u83, cwX m0 (Value.bool false) (u84), cwX m1 (Value.bool false) (u85), cwX m2 (Value.slice (some { block := g4, off := o4 }) k cs) (u86), cwX m3 (Value.int IntKind.i64 (j : Int)) (u87), cwX m4 (Value.pointer (some ⟨g4, o4 + j * 2, none⟩)) (u88), cwX m5 (Value.agg #[.int .i64 c', .int .i64 v']) (u89), cwX m6 (Value.pointer (some ⟨W1.heap.size, 1, none⟩)) (u90), cwX m7 (Value.slice (some ⟨b0, off0, none⟩) n c) (u91), cwX m8 (Value.int IntKind.i64 (i : Int)) (u92), cwX m9 (Value.pointer (some ⟨b0, off0 + i, none⟩)) (u93), cwX m10 (Value.int .i64 (r : Int)) (u94), cwX m11 (Value.bool tt) (u95), cwX m12 (Value.bool tt) (u96), u97, u98, undef, undef, undef, undef, undef, undef, undef, undef, undef, undef, undef, undef, undef, undef, undef, undef, undef, undef, undef, undef, undef, undef, undef, undef, undef, undef, undef, undef, undef, undef, undef, undef, undef, undef, undef, undef, undef, undef, undef, undef, undef], defers := [] } : Act) ∧ (m13 = true → m0 = true) ∧ Hp W1 [(W1.heap.size, 26, [.int .i64 (q : Int), .slice (some ⟨b0, off0, none⟩) n c, .slice B nf.length d])] W) (by kernel_rfl) (by kernel_rfl) (by kernel_rfl) (by kernel_rfl) ?_ ?_ ?_ ?_
         ·rintro ll aa W ⟨m0, m1, m2, m3, m4, m5, m6, m7, m8, m9, m10, m11, m12, m13, rfl, _⟩
          rfl
         ·exact ⟨false, false, false, false, false, false, false, false, false, false, false, false, false, false, rfl, rfl, fun h => absurd h (by simp), (HPJ.out.drew)⟩
         ·rintro ll aa W i o ⟨m0, m1, m2, m3, m4, m5, m6, m7, m8, m9, m10, m11, m12, m13, rfl, rfl, hi0, hm⟩ ho hun hall K hK
          have hi : i < 14 := (Array.getElem?_eq_some_iff.1 ho).1
          have HM := Lib.hid hm
          have HI := Lib.hid hi0
          clear hm hi0
          rcases (show i = 0 ∨ i = 1 ∨ i = 2 ∨ i = 3 ∨ i = 4 ∨ i = 5 ∨ i = 6 ∨ i = 7 ∨ i = 8 ∨ i = 9 ∨ i = 10 ∨ i = 11 ∨ i = 12 ∨ i = 13 by omega) with rfl | rfl | rfl | rfl | rfl | rfl | rfl | rfl | rfl | rfl | rfl | rfl | rfl | rfl
          ·cases ho
           simp at hun; subst hun
           clear hall hi
           obtain rfl : m13 = false := by
            cases m13
            ·rfl
            ·exact absurd (HI.out rfl) (by simp)
           go_simp
           exact hK.out _ _ ⟨true, m1, m2, m3, m4, m5, m6, m7, m8, m9, m10, m11, m12, false, rfl, rfl, by have h0 := HI.out; exact fun e => by first | rfl | exact h0 e | exact absurd e (by simp), HM.out⟩
          ·cases ho
           cases (getBX hall 0 rfl : m0 = true)
           simp at hun; subst hun
           clear hall hi
           go_simp
           exact hK.out _ _ ⟨true, true, m2, m3, m4, m5, m6, m7, m8, m9, m10, m11, m12, m13, rfl, rfl, by have h0 := HI.out; exact fun e => by first | rfl | exact h0 e | exact absurd e (by simp), HM.out⟩
          ·cases ho
           cases (getBX hall 1 rfl : m1 = true)
           simp at hun; subst hun
           clear hall hi
           go_simp
           exact hK.out _ _ ⟨m0, true, true, m3, m4, m5, m6, m7, m8, m9, m10, m11, m12, m13, rfl, rfl, by have h0 := HI.out; exact fun e => by first | rfl | exact h0 e | exact absurd e (by simp), HM.out⟩
          ·cases ho
           cases (getBX hall 1 rfl : m1 = true)
           simp at hun; subst hun
           clear hall hi
           go_simp
           exact hK.out _ _ ⟨m0, true, m2, true, m4, m5, m6, m7, m8, m9, m10, m11, m12, m13, rfl, rfl, by have h0 := HI.out; exact fun e => by first | rfl | exact h0 e | exact absurd e (by simp), HM.out⟩
          ·cases ho
           cases (getBX hall 1 rfl : m1 = true)
           cases (getBX hall 2 rfl : m2 = true)
           cases (getBX hall 3 rfl : m3 = true)
           simp at hun; subst hun
           clear hall hi
           go_simp
           exact hK.out _ _ ⟨m0, true, true, true, true, m5, m6, m7, m8, m9, m10, m11, m12, m13, rfl, rfl, by have h0 := HI.out; exact fun e => by first | rfl | exact h0 e | exact absurd e (by simp), HM.out⟩
          ·cases ho
           cases (getBX hall 1 rfl : m1 = true)
           cases (getBX hall 4 rfl : m4 = true)
           simp at hun; subst hun
           clear hall hi
           obtain ⟨y0, y1⟩ := HXI.out W HM.out.below
           go_simp
           exact hK.out _ _ ⟨m0, true, m2, m3, true, true, m6, m7, m8, m9, m10, m11, m12, m13, rfl, rfl, by have h0 := HI.out; exact fun e => by first | rfl | exact h0 e | exact absurd e (by simp), HM.out⟩
          ·cases ho
           cases (getBX hall 1 rfl : m1 = true)
           simp at hun; subst hun
           clear hall hi
           go_simp
           exact hK.out _ _ ⟨m0, true, m2, m3, m4, m5, true, m7, m8, m9, m10, m11, m12, m13, rfl, rfl, by have h0 := HI.out; exact fun e => by first | rfl | exact h0 e | exact absurd e (by simp), HM.out⟩
          ·cases ho
           cases (getBX hall 1 rfl : m1 = true)
           cases (getBX hall 6 rfl : m6 = true)
           simp at hun; subst hun
           clear hall hi
           have t1 : W.cell? ⟨W1.heap.size, 1, none⟩ = some (.slice (some ⟨b0, off0, none⟩) n c) := (HM.out.at_ 0 rfl).cell 1
           go_simp
           exact hK.out _ _ ⟨m0, true, m2, m3, m4, m5, true, true, m8, m9, m10, m11, m12, m13, rfl, rfl, by have h0 := HI.out; exact fun e => by first | rfl | exact h0 e | exact absurd e (by simp), HM.out⟩
          ·cases ho
           cases (getBX hall 1 rfl : m1 = true)
           simp at hun; subst hun
           clear hall hi
           go_simp
           exact hK.out _ _ ⟨m0, true, m2, m3, m4, m5, m6, m7, true, m9, m10, m11, m12, m13, rfl, rfl, by have h0 := HI.out; exact fun e => by first | rfl | exact h0 e | exact absurd e (by simp), HM.out⟩
          ·cases ho
           cases (getBX hall 1 rfl : m1 = true)
           cases (getBX hall 7 rfl : m7 = true)
           cases (getBX hall 8 rfl : m8 = true)
           simp at hun; subst hun
           clear hall hi
           go_simp
           exact hK.out _ _ ⟨m0, true, m2, m3, m4, m5, m6, true, true, true, m10, m11, m12, m13, rfl, rfl, by have h0 := HI.out; exact fun e => by first | rfl | exact h0 e | exact absurd e (by simp), HM.out⟩
          ·cases ho
           cases (getBX hall 1 rfl : m1 = true)
           cases (getBX hall 9 rfl : m9 = true)
           simp at hun; subst hun
           clear hall hi
           have x0 := HXA.out W HM.out.below
           go_simp
           exact hK.out _ _ ⟨m0, true, m2, m3, m4, m5, m6, m7, m8, true, true, m11, m12, m13, rfl, rfl, by have h0 := HI.out; exact fun e => by first | rfl | exact h0 e | exact absurd e (by simp), HM.out⟩
          ·cases ho
           cases (getBX hall 1 rfl : m1 = true)
           cases (getBX hall 5 rfl : m5 = true)
           cases (getBX hall 10 rfl : m10 = true)
           simp at hun; subst hun
           clear hall hi
           go_simp
           refine (HLH.out W).mono ?_
           rintro e W' ⟨rfl, hb⟩
           have HN' := Lib.hid (HM.out.step hb)
           exact hK.out _ _ ⟨m0, true, m2, m3, m4, true, m6, m7, m8, m9, true, true, m12, m13, rfl, rfl, by have h0 := HI.out; exact fun e => by first | rfl | exact h0 e | exact absurd e (by simp), HN'.out⟩
          ·cases ho
           cases (getBX hall 1 rfl : m1 = true)
           cases (getBX hall 11 rfl : m11 = true)
           simp at hun; subst hun
           clear hall hi
           go_simp
           exact hK.out _ _ ⟨m0, true, m2, m3, m4, m5, m6, m7, m8, m9, m10, true, true, m13, rfl, rfl, by have h0 := HI.out; exact fun e => by first | rfl | exact h0 e | exact absurd e (by simp), HM.out⟩
          ·cases ho
           cases (getBX hall 0 rfl : m0 = true)
           cases (getBX hall 1 rfl : m1 = true)
           cases (getBX hall 2 rfl : m2 = true)
           cases (getBX hall 3 rfl : m3 = true)
           cases (getBX hall 4 rfl : m4 = true)
           cases (getBX hall 5 rfl : m5 = true)
           cases (getBX hall 6 rfl : m6 = true)
           cases (getBX hall 7 rfl : m7 = true)
           cases (getBX hall 8 rfl : m8 = true)
           cases (getBX hall 9 rfl : m9 = true)
           cases (getBX hall 10 rfl : m10 = true)
           cases (getBX hall 11 rfl : m11 = true)
           cases (getBX hall 12 rfl : m12 = true)
           simp at hun; subst hun
           clear hall hi
           go_simp
           exact hK.out _ _ ⟨true, true, true, true, true, true, true, true, true, true, true, true, true, true, rfl, rfl, by have h0 := HI.out; exact fun e => by first | rfl | exact h0 e | exact absurd e (by simp), HM.out⟩
         ·rintro ll aa W ⟨m0, m1, m2, m3, m4, m5, m6, m7, m8, m9, m10, m11, m12, m13, rfl, rfl, _, hm⟩ hall
          cases (hall 0 (by decide) : m0 = true)
          cases (hall 1 (by decide) : m1 = true)
          cases (hall 2 (by decide) : m2 = true)
          cases (hall 3 (by decide) : m3 = true)
          cases (hall 4 (by decide) : m4 = true)
          cases (hall 5 (by decide) : m5 = true)
          cases (hall 6 (by decide) : m6 = true)
          cases (hall 7 (by decide) : m7 = true)
          cases (hall 8 (by decide) : m8 = true)
          cases (hall 9 (by decide) : m9 = true)
          cases (hall 10 (by decide) : m10 = true)
          cases (hall 11 (by decide) : m11 = true)
          cases (hall 12 (by decide) : m12 = true)
          cases (hall 13 (by decide) : m13 = true)
          clear hall
          have HME := Lib.hid hm
          clear hm
          dsimp only [cwX, cond_true]
          go_wp2_with fail
          go_roundw
          case rel => exact ⟨j + 1, HJL.out, by rw [HJ2.out]; rfl, by rw [HCV.out]; rfl, HME.out⟩
          case measure => have := HJL.out; have := HJ2.out; simp only [intOf]; omega
       ·obtain rfl : j = k := by omega
        have hjz : ¬ (j : Int) < (j : Int) := by omega
        have hcv : ((S.take j).any fun x => bits .and .i64 (r : Int) x.1 == x.2) = cvB S r := by
         rw [List.take_of_length_le (by rw [HS.out.2.1]; exact Nat.le_refl _)]; rfl
        rw [hcv]
        obtain ⟨cv, hcv2⟩ : ∃ b, b = cvB S r := ⟨_, rfl⟩
        have hst := HST.out
        rw [← hcv2] at hst
        rw [← hcv2]
        have HST2 := Lib.hid hst
        clear hj hjl hcv hcv2 hst
        cases cv with
        | true =>
         go_wp2_with fail
         go_roundw
         case rel => exact ⟨i + 1, HIL.out, by rw [HI2.out]; rfl, by rw [HST2.out]; rfl, HPJ.out⟩
         case measure => have := HIL.out; have := HI2.out; simp only [intOf]; omega
        | false =>
         go_wp2_with fail
         go_roundw
         case rel => exact ⟨i + 1, HIL.out, by rw [HI2.out]; rfl, by rw [HST2.out]; rfl, HPJ.out⟩
         case measure => have := HIL.out; have := HI2.out; simp only [intOf]; omega
     ·have hwE := HWE.out i (.inr hw0)
      have hwb : (wtK q M1 MY no S i == 0) = false := by rw [beq_eq_false_iff_ne]; exact hw0
      --T1
      obtain ⟨E, hE⟩ : ∃ E, E = vrE q M1 MY S := ⟨_, rfl⟩
      have hv2 := HVE.out
      rw [← hE] at hv2 hwE
      rw [hwE]
      rw [hwE] at hwb
      have HV2 := Lib.hid hv2
      have t0 : wn.cell? ⟨W1.heap.size, 0, none⟩ = some (.int .i64 (q : Int)) := (HPI.out.at_ 0 rfl).cell 0
      clear hwE hE hi hil hv2
      go_wp2_with fail
      refine (HFO.out _ HPI.out.below).mono ?_
      rintro e W2 (⟨hf, rfl, hb⟩ | ⟨hf, A', cp, rfl, hcp, hF, hb⟩)
      ·have hp2 := (HPI.out.step hb).new 53 [.int .i64 0, .int .i64 0, .slice none 0 0]
       simp only [List.nil_append, List.cons_append] at hp2
       have HP2 := Lib.hid hp2
       have hfz : (ff != 0) = true := by rw [bne_iff_ne, HFF.out]; exact hf
       rw [← HFF.out]
       clear hb hf t0 t1 hp2
       go_wp2_with fail
       refine (HF9.out _).mono ?_
       rintro e W3 (⟨hf9, rfl, hb⟩ | ⟨hf9, _⟩)
       case inr => exact absurd hf9 (by unfold fmE; rw [if_pos (Or.inr (by decide))]; decide)
       have HP3 := Lib.hid (HP2.out.step hb)
       rw [show fmE 9 S = 3 by unfold fmE; rw [if_pos (Or.inr (by decide))]]
       have t0 : W3.cell? ⟨W1.heap.size, 0, none⟩ = some (.int .i64 (q : Int)) := (HP3.out.at_ 0 rfl).cell 0
       have t1 : W3.cell? ⟨W1.heap.size, 1, none⟩ = some (.slice A n c) := (HP3.out.at_ 0 rfl).cell 1
       have t2 : W3.cell? ⟨W1.heap.size, 2, none⟩ = some (.slice B nf.length d) := (HP3.out.at_ 0 rfl).cell 2
       have hwl : W1.heap.size < W3.heap.size := (HP3.out.at_ 0 rfl).lt
       have hp3 := HP3.out.new 53 [.int .i64 0, .int .i64 0, .slice none 0 0]
       simp only [List.nil_append, List.cons_append] at hp3
       have HP5 := Lib.hid hp3
       clear hb hf9 hp3
       go_wp2_with fail
       refine (HV2.out _ HP5.out.below (HSX.out _ HP5.out.below)).mono ?_
       rintro e W4 ⟨rfl, hb⟩
       have HP4 := Lib.hid (HP5.out.step hb)
       have hee : (E != E) = false := by rw [bne_self_eq_false]
       clear hb t0 t1 t2
       have t0 : W4.cell? ⟨W2.heap.size, 0, none⟩ = some (.int .i64 0) := (HP4.out.at_ 1 rfl).cell 0
       go_wp2_with fail
       exact bodyPost_ret (v := .bool true) (by simp [results, Tryz.results8, go_sem]) rfl ⟨rfl, HB1.out.trans (HP4.out.below.mono HB1.out.size)⟩
      ·have hff0 : ff = 0 := by rw [HFF.out]; exact hf
       subst hff0
       have HTM := Lib.hid (fun X (h : Below W1.heap.size W1 X) => lterms_ok As k cs q S X (by omega) (HSX.out X h) HS.out.2.1 (by have := HN6.out; omega) HS.out.2.2 hf)
       have HEQ := Lib.hid (eqS_ok q S (by omega) (by rw [← HS.out.2.1]; have := HN6.out; omega))
       have hp2 := (HPI.out.step hb).new 53 [.int .i64 4, .int .i64 0, .slice A' S.length cp]
       simp only [List.nil_append, List.cons_append] at hp2
       have HP2 := Lib.hid hp2
       have HFS := Lib.hid ((hF.mono (S' := lowB W2.heap.size) fun b hb => hb.2).step (bw_new (Below.refl _ _) (Obj.cells #[.int .i64 4, .int .i64 0, .slice A' S.length cp] 53)))
       clear hb hf t0 t1 hp2 hF hcp
       go_wp2_with fail
       refine (HF9.out _).mono ?_
       rintro e W3 (⟨hf9, rfl, hb⟩ | ⟨hf9, _⟩)
       case inr => exact absurd hf9 (by unfold fmE; rw [if_pos (Or.inr (by decide))]; decide)
       have HP3 := Lib.hid (HP2.out.step hb)
       have HFS3 := Lib.hid (HFS.out.step hb)
       rw [show fmE 9 S = 3 by unfold fmE; rw [if_pos (Or.inr (by decide))]]
       have t0 : W3.cell? ⟨W1.heap.size, 0, none⟩ = some (.int .i64 (q : Int)) := (HP3.out.at_ 0 rfl).cell 0
       have t1 : W3.cell? ⟨W1.heap.size, 1, none⟩ = some (.slice A n c) := (HP3.out.at_ 0 rfl).cell 1
       have t2 : W3.cell? ⟨W1.heap.size, 2, none⟩ = some (.slice B nf.length d) := (HP3.out.at_ 0 rfl).cell 2
       have hwl : W1.heap.size < W3.heap.size := (HP3.out.at_ 0 rfl).lt
       have hp3 := HP3.out.new 53 [.int .i64 0, .int .i64 0, .slice none 0 0]
       simp only [List.nil_append, List.cons_append] at hp3
       have HP5 := Lib.hid hp3
       have HFS5 := Lib.hid (HFS3.out.step (bw_new (Below.refl _ _) (Obj.cells #[.int .i64 0, .int .i64 0, .slice none 0 0] 53)))
       clear hb hf9 hp3
       go_wp2_with fail
       refine (HV2.out _ HP5.out.below (HSX.out _ HP5.out.below)).mono ?_
       rintro e W6 ⟨rfl, hb⟩
       have HP6 := Lib.hid (HP5.out.step hb)
       have HFS6 := Lib.hid (HFS5.out.step hb)
       have hee : (E != E) = false := by rw [bne_self_eq_false]
       clear hb t0 t1 t2
       have HT0 := Lib.hid (show ∀ X, Below W6.heap.size W6 X → X.cell? ⟨W1.heap.size, 0, none⟩ = some (.int .i64 (q : Int)) from fun X h => (h.cell (p := ⟨W1.heap.size, 0, none⟩) (HP6.out.at_ 0 rfl).lt).trans ((HP6.out.at_ 0 rfl).cell 0))
       have HF0 := Lib.hid (show ∀ X, Below W6.heap.size W6 X → X.cell? ⟨W2.heap.size, 0, none⟩ = some (.int .i64 4) ∧ X.cell? ⟨W2.heap.size, 1, none⟩ = some (.int .i64 0) ∧ X.cell? ⟨W2.heap.size, 2, none⟩ = some (.slice A' S.length cp) from fun X h => ⟨(h.cell (p := ⟨W2.heap.size, _, none⟩) (HP6.out.at_ 1 rfl).lt).trans ((HP6.out.at_ 1 rfl).cell 0), (h.cell (p := ⟨W2.heap.size, _, none⟩) (HP6.out.at_ 1 rfl).lt).trans ((HP6.out.at_ 1 rfl).cell 1), (h.cell (p := ⟨W2.heap.size, _, none⟩) (HP6.out.at_ 1 rfl).lt).trans ((HP6.out.at_ 1 rfl).cell 2)⟩)
       go_upto_region 32 with fail
       refine wp_regionJ 11 #[false, false, false, false, false, false, false, false, false, false, false] (fun ll aa W => ∃ (m0 m1 m2 m3 m4 m5 m6 m7 m8 m9 m10 : Bool) (A2 : Option Addr) (c2 : Nat), ll = #[m0, m1, m2, m3, m4, m5, m6, m7, m8, m9, m10] ∧ aa = ({ tmps := #[Value.int IntKind.u8 (a : Int), Value.agg #[Value.int IntKind.u16 (on : Int), Value.int IntKind.u16 (fr : Int)], Value.slice As k cs, undef, Value.pointer (some { block := V.heap.size, off := 0 }), undef, cwX m10 (Value.bool true) (Value.bool false), Value.pointer (some { block := W1.heap.size, off := 0 }), Value.int IntKind.i64 E, Value.int IntKind.i64 0, Value.int IntKind.i64 (k : Int), u11, u12, Value.int IntKind.i64 (i : Int), u14, u15, Value.pointer (some { block := W2.heap.size, off := 0 }), Value.int IntKind.i64 0, Value.pointer (some { block := W3.heap.size, off := 0 }), Value.int IntKind.i64 3, Value.bool true, Value.bool false, Value.bool false, Value.slice As k cs, Value.int IntKind.i64 (k : Int), Value.bool false, Value.bool false, undef, Value.int IntKind.u8 (a : Int), Value.pointer (some { block := V.heap.size, off := 0 }), Value.int IntKind.u16 (on : Int), Value.pointer (some { block := V.heap.size, off := 1 }), Value.int IntKind.u16 (fr : Int), Value.agg #[Value.int IntKind.i64 (q : Int), Value.slice A n c, Value.slice B nf.length d], Value.int IntKind.i64 (k : Int), Value.slice As k cs, Value.int IntKind.i64 (k : Int), Value.bool false, u38, u39, u40, u41, u42, u43, u44, u45, u46, u47, u48, u49, u50, u51, u52, u53, u54, u55, u56, u57, u58, u59, u60, u61, u62, u63, u64, u65, u66, Value.int IntKind.i64 (i : Int), Value.pointer (some { block := W1.heap.size, off := 1 }), Value.slice A n c, Value.int IntKind.i64 (n : Int), Value.bool true, Value.bool true, Value.int IntKind.i64 E, Value.bool false, Value.bool false, u76, u77, u78, u79, u80, u81, u82, u83, u84, u85, u86, u87, u88, u89, u90, u91, u92, u93, u94, u95, u96, u97, u98, Value.tuple #[Value.agg #[Value.int IntKind.i64 4, Value.int IntKind.i64 0, Value.slice A' S.length cp], Value.int IntKind.i64 0], Value.slice As k cs, Value.pointer (some { block := W1.heap.size, off := 0 }), Value.int IntKind.i64 (q : Int), Value.tuple #[Value.agg #[Value.int IntKind.i64 4, Value.int IntKind.i64 0, Value.slice A' S.length cp], Value.int IntKind.i64 0], Value.agg #[Value.int IntKind.i64 4, Value.int IntKind.i64 0, Value.slice A' S.length cp], Value.int IntKind.i64 0, Value.tuple #[Value.agg #[Value.int IntKind.i64 0, Value.int IntKind.i64 0, Value.slice none 0 0], Value.int IntKind.i64 3], Value.slice As k cs, Value.tuple #[Value.agg #[Value.int IntKind.i64 0, Value.int IntKind.i64 0, Value.slice none 0 0], Value.int IntKind.i64 3], Value.agg #[Value.int IntKind.i64 0, Value.int IntKind.i64 0, Value.slice none 0 0], Value.int IntKind.i64 3, Value.agg #[Value.int IntKind.i64 (q : Int), Value.slice A n c, Value.slice B nf.length d], Value.slice As k cs, Value.int IntKind.i64 E, Value.int IntKind.i64 E, Value.bool false, Value.bool false, Value.int IntKind.i64 3, Value.bool false, Value.bool false, Value.int IntKind.i64 0, Value.bool false, undef, undef, undef, undef, undef, undef, undef, undef, cwX m0 (Value.int IntKind.i64 0) (undef), cwX m1 (Value.bool true) (undef), cwX m2 (Value.bool true) (undef), cwX m3 (Value.agg #[.int .i64 4, .int .i64 0, .slice A' S.length cp]) (undef), cwX m4 (Value.slice As k cs) (undef), cwX m5 (Value.pointer (some ⟨W1.heap.size, 0, none⟩)) (undef), cwX m6 (Value.int .i64 (q : Int)) (undef), cwX m7 (Value.agg #[.int .i64 4, .int .i64 0, .slice A2 S.length c2]) (undef), cwX m8 (Value.bool true) (undef), cwX m9 (Value.bool true) (undef)], defers := [] } : Act) ∧ (True) ∧ TmR W6 A' (S.map (prodT q)) m7 A2 W) (by kernel_rfl) (by kernel_rfl) (by kernel_rfl) (by kernel_rfl) ?_ ?_ ?_ ?_
       ·rintro ll aa W ⟨m0, m1, m2, m3, m4, m5, m6, m7, m8, m9, m10, A2, c2, rfl, _⟩
        rfl
       ·exact ⟨false, false, false, false, false, false, false, false, false, false, false, none, 0, rfl, rfl, trivial, (TmR.step ⟨Below.refl _ _, HFS6.out, fun e => absurd e (by simp)⟩ (bw_drew (Below.refl _ _)))⟩
       ·rintro ll aa W i o ⟨m0, m1, m2, m3, m4, m5, m6, m7, m8, m9, m10, A2, c2, rfl, rfl, hi0, hm⟩ ho hun hall K hK
        have hi : i < 11 := (Array.getElem?_eq_some_iff.1 ho).1
        have HM := Lib.hid hm
        have HI := Lib.hid hi0
        clear hm hi0
        rcases (show i = 0 ∨ i = 1 ∨ i = 2 ∨ i = 3 ∨ i = 4 ∨ i = 5 ∨ i = 6 ∨ i = 7 ∨ i = 8 ∨ i = 9 ∨ i = 10 by omega) with rfl | rfl | rfl | rfl | rfl | rfl | rfl | rfl | rfl | rfl | rfl
        ·cases ho
         simp at hun; subst hun
         clear hall hi
         go_simp
         exact hK.out _ _ ⟨true, m1, m2, m3, m4, m5, m6, m7, m8, m9, m10, A2, c2, rfl, rfl, trivial, HM.out⟩
        ·cases ho
         cases (getBX hall 0 rfl : m0 = true)
         simp at hun; subst hun
         clear hall hi
         go_simp
         exact hK.out _ _ ⟨true, true, m2, m3, m4, m5, m6, m7, m8, m9, m10, A2, c2, rfl, rfl, trivial, HM.out⟩
        ·cases ho
         cases (getBX hall 1 rfl : m1 = true)
         simp at hun; subst hun
         clear hall hi
         go_simp
         exact hK.out _ _ ⟨m0, true, true, m3, m4, m5, m6, m7, m8, m9, m10, A2, c2, rfl, rfl, trivial, HM.out⟩
        ·cases ho
         cases (getBX hall 2 rfl : m2 = true)
         simp at hun; subst hun
         clear hall hi
         obtain ⟨y0, y1, y2⟩ := HF0.out W HM.out.1
         go_simp
         exact hK.out _ _ ⟨m0, m1, true, true, m4, m5, m6, m7, m8, m9, m10, A2, c2, rfl, rfl, trivial, HM.out⟩
        ·cases ho
         cases (getBX hall 2 rfl : m2 = true)
         simp at hun; subst hun
         clear hall hi
         go_simp
         exact hK.out _ _ ⟨m0, m1, true, m3, true, m5, m6, m7, m8, m9, m10, A2, c2, rfl, rfl, trivial, HM.out⟩
        ·cases ho
         cases (getBX hall 2 rfl : m2 = true)
         simp at hun; subst hun
         clear hall hi
         go_simp
         exact hK.out _ _ ⟨m0, m1, true, m3, m4, true, m6, m7, m8, m9, m10, A2, c2, rfl, rfl, trivial, HM.out⟩
        ·cases ho
         cases (getBX hall 2 rfl : m2 = true)
         cases (getBX hall 5 rfl : m5 = true)
         simp at hun; subst hun
         clear hall hi
         have x0 := HT0.out W HM.out.1
         go_simp
         exact hK.out _ _ ⟨m0, m1, true, m3, m4, true, true, m7, m8, m9, m10, A2, c2, rfl, rfl, trivial, HM.out⟩
        ·cases ho
         cases (getBX hall 2 rfl : m2 = true)
         cases (getBX hall 4 rfl : m4 = true)
         cases (getBX hall 6 rfl : m6 = true)
         simp at hun; subst hun
         clear hall hi
         go_simp
         refine (HTM.out W (HP6.out.below.trans (HM.out.1.mono HP6.out.below.size))).mono ?_
         rintro e W' ⟨A2', c2', rfl, hF, hb⟩
         have HN' := Lib.hid (show TmR W6 A' (S.map (prodT q)) true A2' W' from ⟨HM.out.1.trans (hb.mono HM.out.1.size), HM.out.2.1.step hb, fun _ => hF⟩)
         exact hK.out _ _ ⟨m0, m1, true, m3, true, m5, true, true, m8, m9, m10, A2', c2', rfl, rfl, trivial, HN'.out⟩
        ·cases ho
         cases (getBX hall 2 rfl : m2 = true)
         cases (getBX hall 3 rfl : m3 = true)
         cases (getBX hall 7 rfl : m7 = true)
         simp at hun; subst hun
         clear hall hi
         go_simp
         refine (HEQ.out A' A2 cp c2 W HM.out.2.1 (HM.out.2.2 rfl)).mono ?_
         rintro e W' ⟨rfl, hb⟩
         have HN' := Lib.hid (HM.out.step hb)
         exact hK.out _ _ ⟨m0, m1, true, true, m4, m5, m6, true, true, m9, m10, A2, c2, rfl, rfl, trivial, HN'.out⟩
        ·cases ho
         cases (getBX hall 2 rfl : m2 = true)
         cases (getBX hall 8 rfl : m8 = true)
         simp at hun; subst hun
         clear hall hi
         go_simp
         exact hK.out _ _ ⟨m0, m1, true, m3, m4, m5, m6, m7, true, true, m10, A2, c2, rfl, rfl, trivial, HM.out⟩
        ·cases ho
         cases (getBX hall 0 rfl : m0 = true)
         cases (getBX hall 1 rfl : m1 = true)
         cases (getBX hall 2 rfl : m2 = true)
         cases (getBX hall 3 rfl : m3 = true)
         cases (getBX hall 4 rfl : m4 = true)
         cases (getBX hall 5 rfl : m5 = true)
         cases (getBX hall 6 rfl : m6 = true)
         cases (getBX hall 7 rfl : m7 = true)
         cases (getBX hall 8 rfl : m8 = true)
         cases (getBX hall 9 rfl : m9 = true)
         simp at hun; subst hun
         clear hall hi
         go_simp
         exact hK.out _ _ ⟨true, true, true, true, true, true, true, true, true, true, true, A2, c2, rfl, rfl, trivial, HM.out⟩
       ·rintro ll aa W ⟨m0, m1, m2, m3, m4, m5, m6, m7, m8, m9, m10, A2, c2, rfl, rfl, _, hm⟩ hall
        cases (hall 0 (by decide) : m0 = true)
        cases (hall 1 (by decide) : m1 = true)
        cases (hall 2 (by decide) : m2 = true)
        cases (hall 3 (by decide) : m3 = true)
        cases (hall 4 (by decide) : m4 = true)
        cases (hall 5 (by decide) : m5 = true)
        cases (hall 6 (by decide) : m6 = true)
        cases (hall 7 (by decide) : m7 = true)
        cases (hall 8 (by decide) : m8 = true)
        cases (hall 9 (by decide) : m9 = true)
        cases (hall 10 (by decide) : m10 = true)
        clear hall
        have HME := Lib.hid hm
        clear hm
        dsimp only [cwX, cond_true]
        go_wp2_with fail
        exact bodyPost_ret (v := .bool true) (by simp [results, Tryz.results8, go_sem]) rfl ⟨rfl, HB1.out.trans ((HP6.out.below.trans (HME.out.1.mono HP6.out.below.size)).mono HB1.out.size)⟩
    ·obtain rfl : i = n := by omega
     have hiz : ¬ (i : Int) < (i : Int) := by omega
     have hwE := HWE.out i (.inl HN.out)
     --T2
     obtain ⟨E, hE⟩ : ∃ E, E = vrE q M1 MY S := ⟨_, rfl⟩
     have hv2 := HVE.out
     rw [← hE] at hv2 hwE
     rw [hwE]
     have HV2 := Lib.hid hv2
     have t0 : wn.cell? ⟨W1.heap.size, 0, none⟩ = some (.int .i64 (q : Int)) := (HPI.out.at_ 0 rfl).cell 0
     clear hwE hE hi hil hv2
     go_wp2_with fail
     refine (HFO.out _ HPI.out.below).mono ?_
     rintro e W2 (⟨hf, rfl, hb⟩ | ⟨hf, A', cp, rfl, hcp, hF, hb⟩)
     ·have hp2 := (HPI.out.step hb).new 53 [.int .i64 0, .int .i64 0, .slice none 0 0]
      simp only [List.nil_append, List.cons_append] at hp2
      have HP2 := Lib.hid hp2
      have hfz : (ff != 0) = true := by rw [bne_iff_ne, HFF.out]; exact hf
      rw [← HFF.out]
      clear hb hf t0 t1 hp2
      go_wp2_with fail
      refine (HF9.out _).mono ?_
      rintro e W3 (⟨hf9, rfl, hb⟩ | ⟨hf9, _⟩)
      case inr => exact absurd hf9 (by unfold fmE; rw [if_pos (Or.inr (by decide))]; decide)
      have HP3 := Lib.hid (HP2.out.step hb)
      rw [show fmE 9 S = 3 by unfold fmE; rw [if_pos (Or.inr (by decide))]]
      have t0 : W3.cell? ⟨W1.heap.size, 0, none⟩ = some (.int .i64 (q : Int)) := (HP3.out.at_ 0 rfl).cell 0
      have t1 : W3.cell? ⟨W1.heap.size, 1, none⟩ = some (.slice A i c) := (HP3.out.at_ 0 rfl).cell 1
      have t2 : W3.cell? ⟨W1.heap.size, 2, none⟩ = some (.slice B nf.length d) := (HP3.out.at_ 0 rfl).cell 2
      have hwl : W1.heap.size < W3.heap.size := (HP3.out.at_ 0 rfl).lt
      have hp3 := HP3.out.new 53 [.int .i64 0, .int .i64 0, .slice none 0 0]
      simp only [List.nil_append, List.cons_append] at hp3
      have HP5 := Lib.hid hp3
      clear hb hf9 hp3
      go_wp2_with fail
      refine (HV2.out _ HP5.out.below (HSX.out _ HP5.out.below)).mono ?_
      rintro e W4 ⟨rfl, hb⟩
      have HP4 := Lib.hid (HP5.out.step hb)
      have hee : (E != E) = false := by rw [bne_self_eq_false]
      clear hb t0 t1 t2
      have t0 : W4.cell? ⟨W2.heap.size, 0, none⟩ = some (.int .i64 0) := (HP4.out.at_ 1 rfl).cell 0
      go_wp2_with fail
      exact bodyPost_ret (v := .bool true) (by simp [results, Tryz.results8, go_sem]) rfl ⟨rfl, HB1.out.trans (HP4.out.below.mono HB1.out.size)⟩
     ·have hff0 : ff = 0 := by rw [HFF.out]; exact hf
      subst hff0
      have HTM := Lib.hid (fun X (h : Below W1.heap.size W1 X) => lterms_ok As k cs q S X (by omega) (HSX.out X h) HS.out.2.1 (by have := HN6.out; omega) HS.out.2.2 hf)
      have HEQ := Lib.hid (eqS_ok q S (by omega) (by rw [← HS.out.2.1]; have := HN6.out; omega))
      have hp2 := (HPI.out.step hb).new 53 [.int .i64 4, .int .i64 0, .slice A' S.length cp]
      simp only [List.nil_append, List.cons_append] at hp2
      have HP2 := Lib.hid hp2
      have HFS := Lib.hid ((hF.mono (S' := lowB W2.heap.size) fun b hb => hb.2).step (bw_new (Below.refl _ _) (Obj.cells #[.int .i64 4, .int .i64 0, .slice A' S.length cp] 53)))
      clear hb hf t0 t1 hp2 hF hcp
      go_wp2_with fail
      refine (HF9.out _).mono ?_
      rintro e W3 (⟨hf9, rfl, hb⟩ | ⟨hf9, _⟩)
      case inr => exact absurd hf9 (by unfold fmE; rw [if_pos (Or.inr (by decide))]; decide)
      have HP3 := Lib.hid (HP2.out.step hb)
      have HFS3 := Lib.hid (HFS.out.step hb)
      rw [show fmE 9 S = 3 by unfold fmE; rw [if_pos (Or.inr (by decide))]]
      have t0 : W3.cell? ⟨W1.heap.size, 0, none⟩ = some (.int .i64 (q : Int)) := (HP3.out.at_ 0 rfl).cell 0
      have t1 : W3.cell? ⟨W1.heap.size, 1, none⟩ = some (.slice A i c) := (HP3.out.at_ 0 rfl).cell 1
      have t2 : W3.cell? ⟨W1.heap.size, 2, none⟩ = some (.slice B nf.length d) := (HP3.out.at_ 0 rfl).cell 2
      have hwl : W1.heap.size < W3.heap.size := (HP3.out.at_ 0 rfl).lt
      have hp3 := HP3.out.new 53 [.int .i64 0, .int .i64 0, .slice none 0 0]
      simp only [List.nil_append, List.cons_append] at hp3
      have HP5 := Lib.hid hp3
      have HFS5 := Lib.hid (HFS3.out.step (bw_new (Below.refl _ _) (Obj.cells #[.int .i64 0, .int .i64 0, .slice none 0 0] 53)))
      clear hb hf9 hp3
      go_wp2_with fail
      refine (HV2.out _ HP5.out.below (HSX.out _ HP5.out.below)).mono ?_
      rintro e W6 ⟨rfl, hb⟩
      have HP6 := Lib.hid (HP5.out.step hb)
      have HFS6 := Lib.hid (HFS5.out.step hb)
      have hee : (E != E) = false := by rw [bne_self_eq_false]
      clear hb t0 t1 t2
      have HT0 := Lib.hid (show ∀ X, Below W6.heap.size W6 X → X.cell? ⟨W1.heap.size, 0, none⟩ = some (.int .i64 (q : Int)) from fun X h => (h.cell (p := ⟨W1.heap.size, 0, none⟩) (HP6.out.at_ 0 rfl).lt).trans ((HP6.out.at_ 0 rfl).cell 0))
      have HF0 := Lib.hid (show ∀ X, Below W6.heap.size W6 X → X.cell? ⟨W2.heap.size, 0, none⟩ = some (.int .i64 4) ∧ X.cell? ⟨W2.heap.size, 1, none⟩ = some (.int .i64 0) ∧ X.cell? ⟨W2.heap.size, 2, none⟩ = some (.slice A' S.length cp) from fun X h => ⟨(h.cell (p := ⟨W2.heap.size, _, none⟩) (HP6.out.at_ 1 rfl).lt).trans ((HP6.out.at_ 1 rfl).cell 0), (h.cell (p := ⟨W2.heap.size, _, none⟩) (HP6.out.at_ 1 rfl).lt).trans ((HP6.out.at_ 1 rfl).cell 1), (h.cell (p := ⟨W2.heap.size, _, none⟩) (HP6.out.at_ 1 rfl).lt).trans ((HP6.out.at_ 1 rfl).cell 2)⟩)
      go_upto_region 32 with fail
      refine wp_regionJ 11 #[false, false, false, false, false, false, false, false, false, false, false] (fun ll aa W => ∃ (m0 m1 m2 m3 m4 m5 m6 m7 m8 m9 m10 : Bool) (A2 : Option Addr) (c2 : Nat), ll = #[m0, m1, m2, m3, m4, m5, m6, m7, m8, m9, m10] ∧ aa = ({ tmps := #[Value.int IntKind.u8 (a : Int), Value.agg #[Value.int IntKind.u16 (on : Int), Value.int IntKind.u16 (fr : Int)], Value.slice As k cs, undef, Value.pointer (some { block := V.heap.size, off := 0 }), undef, cwX m10 (Value.bool true) (Value.bool false), Value.pointer (some { block := W1.heap.size, off := 0 }), Value.int IntKind.i64 E, Value.int IntKind.i64 0, Value.int IntKind.i64 (k : Int), u11, u12, Value.int IntKind.i64 (i : Int), u14, u15, Value.pointer (some { block := W2.heap.size, off := 0 }), Value.int IntKind.i64 0, Value.pointer (some { block := W3.heap.size, off := 0 }), Value.int IntKind.i64 3, Value.bool true, Value.bool false, Value.bool false, Value.slice As k cs, Value.int IntKind.i64 (k : Int), Value.bool false, Value.bool false, undef, Value.int IntKind.u8 (a : Int), Value.pointer (some { block := V.heap.size, off := 0 }), Value.int IntKind.u16 (on : Int), Value.pointer (some { block := V.heap.size, off := 1 }), Value.int IntKind.u16 (fr : Int), Value.agg #[Value.int IntKind.i64 (q : Int), Value.slice A i c, Value.slice B nf.length d], Value.int IntKind.i64 (k : Int), Value.slice As k cs, Value.int IntKind.i64 (k : Int), Value.bool false, u38, u39, u40, u41, u42, u43, u44, u45, u46, u47, u48, u49, u50, u51, u52, u53, u54, u55, u56, u57, u58, u59, u60, u61, u62, u63, u64, u65, u66, Value.int IntKind.i64 (i : Int), Value.pointer (some { block := W1.heap.size, off := 1 }), Value.slice A i c, Value.int IntKind.i64 (i : Int), Value.bool false, Value.bool false, undef, undef, Value.bool false, u76, u77, u78, u79, u80, u81, u82, u83, u84, u85, u86, u87, u88, u89, u90, u91, u92, u93, u94, u95, u96, u97, u98, Value.tuple #[Value.agg #[Value.int IntKind.i64 4, Value.int IntKind.i64 0, Value.slice A' S.length cp], Value.int IntKind.i64 0], Value.slice As k cs, Value.pointer (some { block := W1.heap.size, off := 0 }), Value.int IntKind.i64 (q : Int), Value.tuple #[Value.agg #[Value.int IntKind.i64 4, Value.int IntKind.i64 0, Value.slice A' S.length cp], Value.int IntKind.i64 0], Value.agg #[Value.int IntKind.i64 4, Value.int IntKind.i64 0, Value.slice A' S.length cp], Value.int IntKind.i64 0, Value.tuple #[Value.agg #[Value.int IntKind.i64 0, Value.int IntKind.i64 0, Value.slice none 0 0], Value.int IntKind.i64 3], Value.slice As k cs, Value.tuple #[Value.agg #[Value.int IntKind.i64 0, Value.int IntKind.i64 0, Value.slice none 0 0], Value.int IntKind.i64 3], Value.agg #[Value.int IntKind.i64 0, Value.int IntKind.i64 0, Value.slice none 0 0], Value.int IntKind.i64 3, Value.agg #[Value.int IntKind.i64 (q : Int), Value.slice A i c, Value.slice B nf.length d], Value.slice As k cs, Value.int IntKind.i64 E, Value.int IntKind.i64 E, Value.bool false, Value.bool false, Value.int IntKind.i64 3, Value.bool false, Value.bool false, Value.int IntKind.i64 0, Value.bool false, undef, undef, undef, undef, undef, undef, undef, undef, cwX m0 (Value.int IntKind.i64 0) (undef), cwX m1 (Value.bool true) (undef), cwX m2 (Value.bool true) (undef), cwX m3 (Value.agg #[.int .i64 4, .int .i64 0, .slice A' S.length cp]) (undef), cwX m4 (Value.slice As k cs) (undef), cwX m5 (Value.pointer (some ⟨W1.heap.size, 0, none⟩)) (undef), cwX m6 (Value.int .i64 (q : Int)) (undef), cwX m7 (Value.agg #[.int .i64 4, .int .i64 0, .slice A2 S.length c2]) (undef), cwX m8 (Value.bool true) (undef), cwX m9 (Value.bool true) (undef)], defers := [] } : Act) ∧ (True) ∧ TmR W6 A' (S.map (prodT q)) m7 A2 W) (by kernel_rfl) (by kernel_rfl) (by kernel_rfl) (by kernel_rfl) ?_ ?_ ?_ ?_
      ·rintro ll aa W ⟨m0, m1, m2, m3, m4, m5, m6, m7, m8, m9, m10, A2, c2, rfl, _⟩
       rfl
      ·exact ⟨false, false, false, false, false, false, false, false, false, false, false, none, 0, rfl, rfl, trivial, (TmR.step ⟨Below.refl _ _, HFS6.out, fun e => absurd e (by simp)⟩ (bw_drew (Below.refl _ _)))⟩
      ·rintro ll aa W i o ⟨m0, m1, m2, m3, m4, m5, m6, m7, m8, m9, m10, A2, c2, rfl, rfl, hi0, hm⟩ ho hun hall K hK
       have hi : i < 11 := (Array.getElem?_eq_some_iff.1 ho).1
       have HM := Lib.hid hm
       have HI := Lib.hid hi0
       clear hm hi0
       rcases (show i = 0 ∨ i = 1 ∨ i = 2 ∨ i = 3 ∨ i = 4 ∨ i = 5 ∨ i = 6 ∨ i = 7 ∨ i = 8 ∨ i = 9 ∨ i = 10 by omega) with rfl | rfl | rfl | rfl | rfl | rfl | rfl | rfl | rfl | rfl | rfl
       ·cases ho
        simp at hun; subst hun
        clear hall hi
        go_simp
        exact hK.out _ _ ⟨true, m1, m2, m3, m4, m5, m6, m7, m8, m9, m10, A2, c2, rfl, rfl, trivial, HM.out⟩
       ·cases ho
        cases (getBX hall 0 rfl : m0 = true)
        simp at hun; subst hun
        clear hall hi
        go_simp
        exact hK.out _ _ ⟨true, true, m2, m3, m4, m5, m6, m7, m8, m9, m10, A2, c2, rfl, rfl, trivial, HM.out⟩
       ·cases ho
        cases (getBX hall 1 rfl : m1 = true)
        simp at hun; subst hun
        clear hall hi
        go_simp
        exact hK.out _ _ ⟨m0, true, true, m3, m4, m5, m6, m7, m8, m9, m10, A2, c2, rfl, rfl, trivial, HM.out⟩
       ·cases ho
        cases (getBX hall 2 rfl : m2 = true)
        simp at hun; subst hun
        clear hall hi
        obtain ⟨y0, y1, y2⟩ := HF0.out W HM.out.1
        go_simp
        exact hK.out _ _ ⟨m0, m1, true, true, m4, m5, m6, m7, m8, m9, m10, A2, c2, rfl, rfl, trivial, HM.out⟩
       ·cases ho
        cases (getBX hall 2 rfl : m2 = true)
        simp at hun; subst hun
        clear hall hi
        go_simp
        exact hK.out _ _ ⟨m0, m1, true, m3, true, m5, m6, m7, m8, m9, m10, A2, c2, rfl, rfl, trivial, HM.out⟩
       ·cases ho
        cases (getBX hall 2 rfl : m2 = true)
        simp at hun; subst hun
        clear hall hi
        go_simp
        exact hK.out _ _ ⟨m0, m1, true, m3, m4, true, m6, m7, m8, m9, m10, A2, c2, rfl, rfl, trivial, HM.out⟩
       ·cases ho
        cases (getBX hall 2 rfl : m2 = true)
        cases (getBX hall 5 rfl : m5 = true)
        simp at hun; subst hun
        clear hall hi
        have x0 := HT0.out W HM.out.1
        go_simp
        exact hK.out _ _ ⟨m0, m1, true, m3, m4, true, true, m7, m8, m9, m10, A2, c2, rfl, rfl, trivial, HM.out⟩
       ·cases ho
        cases (getBX hall 2 rfl : m2 = true)
        cases (getBX hall 4 rfl : m4 = true)
        cases (getBX hall 6 rfl : m6 = true)
        simp at hun; subst hun
        clear hall hi
        go_simp
        refine (HTM.out W (HP6.out.below.trans (HM.out.1.mono HP6.out.below.size))).mono ?_
        rintro e W' ⟨A2', c2', rfl, hF, hb⟩
        have HN' := Lib.hid (show TmR W6 A' (S.map (prodT q)) true A2' W' from ⟨HM.out.1.trans (hb.mono HM.out.1.size), HM.out.2.1.step hb, fun _ => hF⟩)
        exact hK.out _ _ ⟨m0, m1, true, m3, true, m5, true, true, m8, m9, m10, A2', c2', rfl, rfl, trivial, HN'.out⟩
       ·cases ho
        cases (getBX hall 2 rfl : m2 = true)
        cases (getBX hall 3 rfl : m3 = true)
        cases (getBX hall 7 rfl : m7 = true)
        simp at hun; subst hun
        clear hall hi
        go_simp
        refine (HEQ.out A' A2 cp c2 W HM.out.2.1 (HM.out.2.2 rfl)).mono ?_
        rintro e W' ⟨rfl, hb⟩
        have HN' := Lib.hid (HM.out.step hb)
        exact hK.out _ _ ⟨m0, m1, true, true, m4, m5, m6, true, true, m9, m10, A2, c2, rfl, rfl, trivial, HN'.out⟩
       ·cases ho
        cases (getBX hall 2 rfl : m2 = true)
        cases (getBX hall 8 rfl : m8 = true)
        simp at hun; subst hun
        clear hall hi
        go_simp
        exact hK.out _ _ ⟨m0, m1, true, m3, m4, m5, m6, m7, true, true, m10, A2, c2, rfl, rfl, trivial, HM.out⟩
       ·cases ho
        cases (getBX hall 0 rfl : m0 = true)
        cases (getBX hall 1 rfl : m1 = true)
        cases (getBX hall 2 rfl : m2 = true)
        cases (getBX hall 3 rfl : m3 = true)
        cases (getBX hall 4 rfl : m4 = true)
        cases (getBX hall 5 rfl : m5 = true)
        cases (getBX hall 6 rfl : m6 = true)
        cases (getBX hall 7 rfl : m7 = true)
        cases (getBX hall 8 rfl : m8 = true)
        cases (getBX hall 9 rfl : m9 = true)
        simp at hun; subst hun
        clear hall hi
        go_simp
        exact hK.out _ _ ⟨true, true, true, true, true, true, true, true, true, true, true, A2, c2, rfl, rfl, trivial, HM.out⟩
      ·rintro ll aa W ⟨m0, m1, m2, m3, m4, m5, m6, m7, m8, m9, m10, A2, c2, rfl, rfl, _, hm⟩ hall
       cases (hall 0 (by decide) : m0 = true)
       cases (hall 1 (by decide) : m1 = true)
       cases (hall 2 (by decide) : m2 = true)
       cases (hall 3 (by decide) : m3 = true)
       cases (hall 4 (by decide) : m4 = true)
       cases (hall 5 (by decide) : m5 = true)
       cases (hall 6 (by decide) : m6 = true)
       cases (hall 7 (by decide) : m7 = true)
       cases (hall 8 (by decide) : m8 = true)
       cases (hall 9 (by decide) : m9 = true)
       cases (hall 10 (by decide) : m10 = true)
       clear hall
       have HME := Lib.hid hm
       clear hm
       dsimp only [cwX, cond_true]
       go_wp2_with fail
       exact bodyPost_ret (v := .bool true) (by simp [results, Tryz.results8, go_sem]) rfl ⟨rfl, HB1.out.trans ((HP6.out.below.trans (HME.out.1.mono HP6.out.below.size)).mono HB1.out.size)⟩
end Go.Proofs.YtaegjpancbmppaaGreatDoor
