/- Package noteset's reference: Of, Same; noteset.Of. Conditions: the lists have at most maxLen cells. -/
import Derived.Test.YtfickhncbahekaaDoorNsetD
namespace Go.Proofs.YtfickhncbahekaaDoor
open Go.RowKit

/-- A set with the notes of a list. -/
def addN (s : Nat × Nat) (x : Int) : Nat × Nat := if nB x = true then withN s x.toNat else s
def setN : List Int → Nat × Nat → Nat × Nat
  | [], s => s
  | x :: l, s => setN l (addN s x)
theorem setN_snoc (x : Int) : ∀ (l : List Int) (s : Nat × Nat), setN (l ++ [x]) s = addN (setN l s) x
  | [], _ => rfl
  | y :: l, s => setN_snoc x l (addN s y)
theorem addN_ok {s : Nat × Nat} (h : NOk s) (x : Int) : NOk (addN s x) := by
  unfold addN
  by_cases k : nB x = true
  · rw [if_pos k]
    unfold nB at k
    have := of_decide_eq_true k
    exact withN_ok h (by omega)
  · rw [if_neg k]; exact h
theorem setN_ok : ∀ (l : List Int) {s : Nat × Nat}, NOk s → NOk (setN l s)
  | [], _, h => h
  | x :: l, _, h => setN_ok l (addN_ok h x)
theorem hasZ_add (s : Nat × Nat) (x n : Int) : hasZ (addN s x) n = (hasZ s n || (nB x && decide (n = x))) := by
  unfold addN
  by_cases k : nB x = true
  · rw [if_pos k, k]
    unfold hasZ
    rw [hasN_with]
    unfold nB at k ⊢
    have := of_decide_eq_true k
    by_cases h : 0 ≤ n ∧ n ≤ 127
    · rw [decide_eq_true h]
      simp only [Bool.true_and]
      congr 1
      exact decide_eq_decide.2 (by omega)
    · rw [decide_eq_false h, decide_eq_false (fun e : n = x => by omega)]; simp
  · rw [if_neg k]
    have : nB x = false := by simpa using k
    rw [this]; simp
theorem hasZ_set (n : Int) : ∀ (l : List Int) (s : Nat × Nat), hasZ (setN l s) n = (hasZ s n || (nB n && l.contains n))
  | [], s => by simp [setN]
  | x :: l, s => by
    show hasZ (setN l (addN s x)) n = _
    rw [hasZ_set n l, hasZ_add, List.contains_cons]
    by_cases e : n = x
    · subst e; simp; cases hasZ s n <;> cases nB n <;> simp
    · rw [decide_eq_false e, show (n == x) = false by simpa using e]; simp
theorem hasZ_zero (n : Int) : hasZ (0, 0) n = false := by unfold hasZ; rw [hasN_zero]; simp
theorem hasZ_ext {s t : Nat × Nat} (hs : NOk s) (ht : NOk t) (h : ∀ n, hasZ s n = hasZ t n) : s = t := ns_ext hs ht fun m hm => by
  have := h (m : Int)
  unfold hasZ nB at this
  rw [decide_eq_true (by omega)] at this
  simpa using this
theorem mem_listZ {s : Nat × Nat} {n : Int} : n ∈ listN s ↔ hasZ s n = true := by
  rw [mem_listN]
  unfold hasZ nB
  constructor
  · rintro ⟨k, rfl, h1, h2⟩
    rw [decide_eq_true (by omega), Int.toNat_natCast, h2]; rfl
  · intro h
    rw [Bool.and_eq_true, decide_eq_true_eq] at h
    exact ⟨n.toNat, by omega, by omega, h.2⟩
theorem take_snocD {α : Type} (L : List α) (k : Nat) (d : α) (h : k < L.length) : L.take (k + 1) = L.take k ++ [L.getD k d] := by
  rw [List.take_succ_eq_append_getElem h]
  simp [h]

/-- What the loops over a list carry. -/
def OfPack (w : World) (A : Option Addr) (l : List Int) (s : Nat × Nat) (wx : World) : Prop :=
  Hp w [(w.heap.size, 39, ncs (0, 0)), (w.heap.size + 1, 39, ncs s)] wx ∧ Rd i64v wx w.heap.size A l
theorem OfPack.step {w : World} {A : Option Addr} {l : List Int} {s : Nat × Nat} {wx w' : World} (h : OfPack w A l s wx) (hb : Below wx.heap.size wx w') : OfPack w A l s w' :=
  ⟨h.1.step hb, h.2.below (hb.mono h.1.below.size)⟩
abbrev OfHeld (w : World) (b off k : Nat) (l : List Int) (s1 s2 y : Nat) (w' : World) : Prop := w'.cell? ⟨w.heap.size + 1, 0, none⟩ = some (.int .u64 (s1 : Int)) ∧ w'.cell? ⟨w.heap.size + 1, 1, none⟩ = some (.int .u64 (s2 : Int)) ∧ w'.cell? ⟨b, off + k, none⟩ = some (.int .i64 (y : Int)) ∧ w'.frozen? ⟨w.heap.size + 1, 0, none⟩ = false ∧ w'.frozen? ⟨w.heap.size + 1, 1, none⟩ = false ∧ OfPack w (some ⟨b, off, none⟩) l (s1, s2) w'
theorem OfHeld.of {w w' : World} {b off k : Nat} {l : List Int} {s1 s2 y : Nat} (h : OfPack w (some ⟨b, off, none⟩) l (s1, s2) w') (hc : w'.cell? ⟨b, off + k, none⟩ = some (.int .i64 (y : Int))) (_hb : b < w.heap.size) : OfHeld w b off k l s1 s2 y w' :=
  ⟨(h.1.at_ 1 rfl).cell 0, (h.1.at_ 1 rfl).cell 1, hc, (h.1.at_ 1 rfl).frozen 0, (h.1.at_ 1 rfl).frozen 1, h⟩
theorem OfHeld.below {w w1 w2 : World} {b off k : Nat} {l : List Int} {s1 s2 y : Nat} (hb : b < w.heap.size) (h : OfHeld w b off k l s1 s2 y w1) (hw : Below w1.heap.size w1 w2) : OfHeld w b off k l s1 s2 y w2 := by
  obtain ⟨_, _, hc, _, _, hp⟩ := h
  exact .of (hp.step hw) ((hw.cell (p := ⟨b, off + k, none⟩) (Nat.lt_of_lt_of_le hb hp.1.below.size)).trans hc) hb
set_option maxRecDepth 100000 in
set_option maxHeartbeats 2000000 in
theorem refOf_any (A : Option Addr) (n cap : Nat) (l : List Int) (w : World) (hl : l.length = n) (hc : n ≤ cap) (hm : cap ≤ maxLen) (hr : Rd i64v w w.heap.size A l) :
    Calls Tryd.prog 31 #[.slice A n cap] w fun e w' => e = .returned (nv (setN l (0, 0))) ∧ Below w.heap.size w w' := by
  have hm0 := ((Hp.start w).new 39 (ncs (0, 0))).new 39 (ncs (0, 0))
  simp only [World.size_alloc, List.nil_append, List.cons_append] at hm0
  have HP := Lib.hid (show OfPack w A l (0, 0) _ from ⟨hm0, hr.below hm0.below⟩)
  have HL := Lib.hid hl
  unfold maxLen at hm
  clear hm0 hr hl
  go_enter Tryd.func31, Tryd.ntmps31
  go_wp2_with fail
  go_loopw [4] (fun v wx => ∃ k : Nat, k ≤ n ∧ v = .int .i64 (k : Int) ∧ OfPack w A l (setN (l.take k) (0, 0)) wx) (fun v _ => n - (intOf v).toNat)
  case atStart => exact ⟨0, by omega, rfl, HP.out⟩
  case round =>
    obtain ⟨k, hk, rfl, hp⟩ := hrel
    by_cases hlt : k < n
    · obtain ⟨b, off, rfl, hb, hcs⟩ := hp.2.at_ (by have := HL.out; omega)
      have hx0 := hcs k (by have := HL.out; omega)
      obtain ⟨x, hx⟩ : ∃ x, x = l.getD k 0 := ⟨_, rfl⟩
      have hx1 : wr.cell? ⟨b, off + k, none⟩ = some (.int .i64 x) := by rw [hx0, hx]; simp [show k < l.length by have := HL.out; omega]
      have hsn : setN (l.take (k + 1)) (0, 0) = addN (setN (l.take k) (0, 0)) x := by
        rw [take_snocD l k 0 (by have := HL.out; omega), setN_snoc, ← hx]
      have hok : NOk (setN (l.take k) (0, 0)) := setN_ok _ ⟨by decide, by decide⟩
      obtain ⟨s, hs⟩ : ∃ s, s = setN (l.take k) (0, 0) := ⟨_, rfl⟩
      rw [← hs] at hsn hp hok
      have HS := Lib.hid hsn
      have HQ := Lib.hid hp
      clear hcs hx0 hx hsn hs hp
      by_cases hx2 : 0 ≤ x
      · by_cases hx3 : x ≤ 127
        · obtain ⟨y, rfl⟩ := Int.eq_ofNat_of_zero_le hx2

          have HW := Lib.hid (fun W => refWith_any s y W hok (by omega))
          obtain ⟨t, ht⟩ : ∃ t, t = withN s y := ⟨_, rfl⟩
          have hat : addN s (y : Int) = t := by rw [ht]; unfold addN; rw [if_pos (by unfold nB; exact decide_eq_true ⟨hx2, hx3⟩)]; simp
          rw [← ht] at HW
          rw [hat] at HS
          have z0 : wr.cell? ⟨w.heap.size + 1, 0, none⟩ = some (.int .u64 (s.1 : Int)) := (HQ.out.1.at_ 1 rfl).cell 0
          have z1 : wr.cell? ⟨w.heap.size + 1, 1, none⟩ = some (.int .u64 (s.2 : Int)) := (HQ.out.1.at_ 1 rfl).cell 1
          obtain ⟨s1, s2⟩ := s
          obtain ⟨t1, t2⟩ := t
          unfold nv at HW
          dsimp only at HW z0 z1
          clear ht hat hok
          go_wp2_with fail
          have hT : OfHeld w b off k l s1 s2 y wr := OfHeld.of HQ.out hx1 hb
          refine wp_regionE' 6 (fun w' => OfHeld w b off k l s1 s2 y w') 7 #[false, false, false, false, false, false, false] (by kernel_rfl) (by kernel_rfl) (by kernel_rfl) ?_
          have hS : OfHeld w b off k l s1 s2 y wr.drew := OfHeld.below hb hT (bw_drew (Below.refl _ _))
          refine wpAnyE_tk (i := 1) (v := ?_) #[false, true, false, false, false, false, false] (some 24) rfl rfl (by kernel_rfl) (by kernel_rfl) (by kernel_rfl) (by kernel_rfl) (by kernel_rfl) (fun _ _ _ h => h) (Or.inl ⟨by rfl, ?_⟩) hS ?_
          rotate_left
          · (intro w hSw; (try dsimp only at hSw); go_simp; all_goals with_reducible rfl)
          simp only [Act.put]
          refine wpAnyE_tk (i := 2) (v := ?_) #[false, true, true, false, false, false, false] (some 25) rfl rfl (by kernel_rfl) (by kernel_rfl) (by kernel_rfl) (by kernel_rfl) (by kernel_rfl) (fun _ _ _ h => h) (Or.inl ⟨by rfl, ?_⟩) hS ?_
          rotate_left
          · (intro w hSw; (try dsimp only at hSw); go_simp; all_goals with_reducible rfl)
          simp only [Act.put]
          refine wpAnyE_tk (i := 3) (v := ?_) #[false, true, true, true, false, false, false] (some 26) rfl rfl (by kernel_rfl) (by kernel_rfl) (by kernel_rfl) (by kernel_rfl) (by kernel_rfl) (fun _ _ _ h => h) (Or.inl ⟨by rfl, ?_⟩) hS ?_
          rotate_left
          · (intro w hSw; (try dsimp only at hSw); go_simp; all_goals with_reducible rfl)
          simp only [Act.put]
          refine wpAnyE_tk (i := 0) (v := ?_) #[true, true, true, true, false, false, false] (some 23) rfl rfl (by kernel_rfl) (by kernel_rfl) (by kernel_rfl) (by kernel_rfl) (by kernel_rfl) (fun _ _ _ h => h) (Or.inl ⟨by rfl, ?_⟩) hS ?_
          rotate_left
          · (intro w hSw; (try dsimp only at hSw); go_simp; all_goals with_reducible rfl)
          simp only [Act.put]
          refine wpAnyE_tk (i := 4) (v := ?_) #[true, true, true, true, true, false, false] (some 27) rfl rfl (by kernel_rfl) (by kernel_rfl) (by kernel_rfl) (by kernel_rfl) (by kernel_rfl) (fun _ _ _ h => h) (Or.inl ⟨by rfl, ?_⟩) hS ?_
          rotate_left
          · (intro w hSw; (try dsimp only at hSw); go_simp; all_goals with_reducible rfl)
          simp only [Act.put]
          have HH0 : Hid (OfHeld w b off k l s1 s2 y wr.drew) := hS
          clear hS hT z0 z1
          refine wpAnyE_ready (rs := [5]) (by kernel_rfl) (by simp) ?_
          refine AllE.cons' (o := _) #[true, true, true, true, true, true, false] rfl (by kernel_rfl) (fun K hK => ?_) AllE.nil
          go_simp
          refine (HW.out _).mono ?_
          rintro e w2 ⟨rfl, hk2⟩
          dsimp only
          have H1 := Lib.hid (OfHeld.below hb HH0.out hk2)
          refine hK.out _ _ (fun _ => H1.out) ?_
          clear hK K hk2
          try simp only [Act.put]
          obtain ⟨y0, y1, _, f0, f1, hp2⟩ := H1.out
          have HP2 := Lib.hid (show OfPack w (some ⟨b, off, none⟩) l (t1, t2) ((w2.setCell ⟨w.heap.size + 1, 0, none⟩ (.int .u64 (t1 : Int))).setCell ⟨w.heap.size + 1, 1, none⟩ (.int .u64 (t2 : Int))) from
            ⟨hp2.1.put2 1 rfl (.int .u64 (t1 : Int)) (.int .u64 (t2 : Int)), hp2.2.below (bw_set (bw_set (Below.refl _ _) (by omega) _) (by omega) _)⟩)
          clear hp2
          refine wpAnyE_ready (rs := [6]) (by kernel_rfl) (by simp) ?_
          refine AllE.cons' (o := _) #[true, true, true, true, true, true, true] rfl (by kernel_rfl) (fun K hK => ?_) AllE.nil
          go_simp
          refine hK.out _ _ (fun h => absurd rfl h) ?_
          clear hK K y0 y1 f0 f1
          try simp only [Act.put]
          refine wpAnyE_done (by kernel_rfl) ?_ _
          go_wp2
          go_roundw
          case rel => exact ⟨k + 1, by omega, by go_num, by rw [HS.out]; exact HP2.out⟩
          case measure => simp [intOf]; omega
        · have HS2 := Lib.hid (show addN s x = s by unfold addN; rw [if_neg (by unfold nB; rw [decide_eq_false (fun e => hx3 e.2)]; simp)])
          rw [HS2.out] at HS
          go_wp2
          go_roundw
          case rel => exact ⟨k + 1, by omega, by go_num, by rw [HS.out]; exact HQ.out⟩
          case measure => simp [intOf]; omega
      · have HS2 := Lib.hid (show addN s x = s by unfold addN; rw [if_neg (by unfold nB; rw [decide_eq_false (fun e => hx2 e.1)]; simp)])
        rw [HS2.out] at HS
        go_wp2
        go_roundw
        case rel => exact ⟨k + 1, by omega, by go_num, by rw [HS.out]; exact HQ.out⟩
        case measure => simp [intOf]; omega
    · obtain rfl : k = n := by omega
      have hll : l.take k = l := List.take_of_length_le (by have := HL.out; omega)
      rw [hll] at hp
      obtain ⟨s, hs⟩ : ∃ s, s = setN l (0, 0) := ⟨_, rfl⟩
      have HS := Lib.hid hs
      rw [← hs] at hp
      have HQ := Lib.hid hp
      have z0 : wr.cell? ⟨w.heap.size + 1, 0, none⟩ = some (.int .u64 (s.1 : Int)) := (hp.1.at_ 1 rfl).cell 0
      have z1 : wr.cell? ⟨w.heap.size + 1, 1, none⟩ = some (.int .u64 (s.2 : Int)) := (hp.1.at_ 1 rfl).cell 1
      have d0 : wr.cell? ⟨w.heap.size, 0, none⟩ = some (.int .u64 0) := (hp.1.at_ 0 rfl).cell 0
      have d1 : wr.cell? ⟨w.heap.size, 1, none⟩ = some (.int .u64 0) := (hp.1.at_ 0 rfl).cell 1
      have f0 := (hp.1.at_ 0 rfl).frozen 0
      have f1 := (hp.1.at_ 0 rfl).frozen 1
      obtain ⟨s1, s2⟩ := s
      dsimp only at z0 z1
      clear hp hs hll
      go_wp2
      refine bodyPost_ret (v := .agg #[.int .u64 (s1 : Int), .int .u64 (s2 : Int)]) (by simp [results, Tryd.results31, go_sem, d0, d1]) rfl ⟨by rw [← HS.out]; rfl, ?_⟩
      exact (HQ.out.1.put2 0 rfl (.int .u64 (s1 : Int)) (.int .u64 (s2 : Int))).below
end Go.Proofs.YtfickhncbahekaaDoor
