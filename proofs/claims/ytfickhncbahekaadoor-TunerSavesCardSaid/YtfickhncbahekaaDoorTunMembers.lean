/- Package noteset: Members. Conditions: the words of the set are of 64 bits; the library's table reads as its text lays it. -/
import Derived.RangeFuncWrites
import Derived.RangeFuncFrom
import Derived.Maps.AppendAt
import Derived.Test.YtfickhncbahekaaDoorTunAll
namespace Go.Proofs.YtfickhncbahekaaDoor
open Go.RowKit Go.Shelf

attribute [local go_sem] Oper.semAt_some

theorem all_stops (n : Nat) (hn : 2 ≤ n) (Bs n₀ : Nat) (s : Nat × Nat) (hs : NOk s) (w : World) (hBs : Bs < w.heap.size) (h0 : w.cell? ⟨Bs, 0, none⟩ = some (.int .u64 (s.1 : Int))) (h1 : w.cell? ⟨Bs, 1, none⟩ = some (.int .u64 (s.2 : Int))) (ht : DTab w) (hn0 : 0 < n₀) :
    SeqStopsK Fence.wide n Tryd.prog 72 #[.pointer (some ⟨Bs, 0, none⟩)] (fun x : Int => #[Value.int .i64 x]) (Below n₀) (fun ys => ys = listN s) (fun _ => True) 128 w := fun l J Jx W hW _ _ hY hJ0 => by
  exact all1_in n hn l Bs n₀ s hs J Jx hY W ((hW.cell (p := ⟨Bs, 0, none⟩) hBs).trans h0) ((hW.cell (p := ⟨Bs, 1, none⟩) hBs).trans h1) (ht.below hW) hn0 hJ0

set_option maxRecDepth 100000 in
set_option maxHeartbeats 2000000 in
theorem appendSeq_in (n : Nat) (hn : 4 ≤ n) (Bs : Nat) (s : Nat × Nat) (hs : NOk s) (w : World) (hBs : Bs < w.heap.size) (h0 : w.cell? ⟨Bs, 0, none⟩ = some (.int .u64 (s.1 : Int))) (h1 : w.cell? ⟨Bs, 1, none⟩ = some (.int .u64 (s.2 : Int))) (ht : DTab w) :
    CallsIn Fence.wide n Tryd.prog 71 #[.slice none 0 0, .func (.func 72) #[] #[.pointer (some ⟨Bs, 0, none⟩)]] w fun e W' => ∃ v, e = .returned v ∧ W'.ownsRow w.heap.size 3 1 v (listN s).length ((listN s).map i64v) ∧ Below w.heap.size w W' := by
  obtain ⟨i0, hi, hz0, hz1, hz2⟩ := info_parts infoIntT
  refine callsIn_of_wp_marks Tryd.func71 rfl trivial ?_ rfl
  simp only [Tryd.ntmps71, List.size_toArray, List.length_cons, List.length_nil, Nat.reduceAdd, Nat.reduceSub, Array.replicate_succ, Array.replicate_zero, List.push_toArray, List.append_toArray, List.nil_append, List.cons_append]
  gi_wp2
  have bO := Boxed.new w 46 (.slice none 0 0)
  have hB0 : Below w.heap.size w (w.alloc (.cells #[.slice none 0 0] 46)) := (Below.refl _ w).alloc (Nat.le_refl _) _
  refine wpIn_rangeFunc_ownG rfl (by omega) (gf := 72) (lb := #[.pointer (some ⟨Bs, 0, none⟩)]) rfl trivial (enters_of Tryd.func72 (by kernel_rfl) rfl)
    (all_stops (n - 1) (by omega) Bs w.heap.size s hs _ (by simp; omega) (by rw [hB0.cell (p := ⟨Bs, 0, none⟩) hBs]; exact h0) (by rw [hB0.cell (p := ⟨Bs, 1, none⟩) hBs]; exact h1) (ht.below hB0) ht.lt) belowK_t (belowK_b (by simp)) (Below.refl _ _) (fun _ => rfl)
    (fun pre W => (∃ v, Boxed W w.heap.size 46 v ∧ W.ownsRow w.heap.size 3 1 v pre.length (pre.map (Value.int .i64)) ∧ (v = .slice none 0 0 ↔ pre = [])) ∧ Below w.heap.size w W)
    (fun _ _ _ => False)
    (OwnFrom.and (Own.from (holdsRow_own w.heap.size w.heap.size 46 3 1 (fun pre : List Int => pre.length) (fun pre : List Int => pre.map (Value.int .i64)) (fun pre v => v = .slice none 0 0 ↔ pre = [])) _) (ownFrom_below (Nat.le_refl _) (by simp)))
    (fun _ _ _ _ _ hs _ _ => hs)
    ⟨⟨_, bO, World.ownsRow_nil _ _ _ _, by simp⟩, hB0⟩
    (fun x => { tmps := #[.slice none 0 0, .func (.func 72) #[] #[.pointer (some ⟨Bs, 0, none⟩)], .pointer (some ⟨w.heap.size, 0, none⟩), undef, .slice none 0 0, .int .i64 x, .func (.func 72) #[] #[.pointer (some ⟨Bs, 0, none⟩)], .int .i64 x, undef, undef, undef, undef, undef], defers := [] }) ?assign ?body ?done ?stop
  case assign =>
    intro l x W K hK
    gi_wp2
    exact hK
  case body =>
    rintro l pre x W ⟨⟨v, hv, hrow, hnil⟩, hB⟩ hlt
    have hc := hv.cell
    gi_wp2_with (gi_at_builtin; refine wpListIn_append_own _ rfl _ _ 46 rfl w.heap.size 3 i0 (.int .i64 0) 1 8 Tryd.underlying46 hi hz0 hz1 hz2 rfl (by decide) _ _ _ rfl (hrow.alloc _) ⟨W.heap.size, 0, none⟩ 1 1 [.int .i64 x] rfl rfl (cell_one_new _ _ _) (by simp [Value.oneCell']) (by unfold maxLen; omega) (by omega) (by have := hB.size; simp; omega) ?_; intro v' w1 hown' hgrow _; obtain ⟨g', cap', rfl⟩ := ownsRow_succ hown'; obtain ⟨hv1, hv2, hr2, hk2, hb2⟩ := hv.appended (by decide) hrow hB.size (Nat.le_refl _) hown' hgrow; have hc1 := hv1.cell; have hf1 := hv1.frozen)
    exact ⟨hk2.from _, hb2, ⟨_, hv2, by simpa using hr2, by simp⟩, hB.trans hb2⟩
  case done =>
    rintro D ys W hD rfl ⟨⟨v, hv, hrow, hnil⟩, hB⟩ hK
    have hc := hv.cell
    gi_wp2
    refine ⟨by simp, .inl ⟨_, _, rfl, run_takeDeferred hK, ?_⟩⟩
    exact ⟨_, results_tmp rfl _ _ _, v, rfl, ownsRow_putObj hrow _ hK rfl, hB.trans (belowK_b (w := w) (Nat.le_refl _) W D _ _ (by simp at hD; omega) hK rfl rfl)⟩
  case stop =>
    rintro D c pre W _ _ h _
    exact h.elim

theorem appendSeq_any (Bs : Nat) (s : Nat × Nat) (hs : NOk s) (w : World) (hBs : Bs < w.heap.size) (h0 : w.cell? ⟨Bs, 0, none⟩ = some (.int .u64 (s.1 : Int))) (h1 : w.cell? ⟨Bs, 1, none⟩ = some (.int .u64 (s.2 : Int))) (ht : DTab w) :
    Calls Tryd.prog 71 #[.slice none 0 0, .func (.func 72) #[] #[.pointer (some ⟨Bs, 0, none⟩)]] w fun e W' => ∃ v, e = .returned v ∧ W'.ownsRow w.heap.size 3 1 v (listN s).length ((listN s).map i64v) ∧ Below w.heap.size w W' :=
  callsIn_wide.1 (appendSeq_in 5 (by decide) Bs s hs w hBs h0 h1 ht)
theorem retInts_of {w' : World} {v : Value} {l : List Int} {base : Nat} (h : w'.ownsRow base 3 1 v l.length (l.map i64v)) : ∃ (A : Option Addr) (c : Nat), v = .slice A l.length c := by
  rcases h.2 with ⟨rfl, h0⟩ | ⟨g, cap, cur, rfl, _⟩
  · exact ⟨none, 0, by rw [h0]⟩
  · exact ⟨_, _, rfl⟩
theorem all_any (s1 s2 : Nat) (w : World) :
    Calls Tryd.prog 62 #[.agg #[.int .u64 (s1 : Int), .int .u64 (s2 : Int)]] w fun e w' => e = .returned (.func (.func 72) #[] #[.pointer (some ⟨w.heap.size, 0, none⟩)]) ∧ w' = w.alloc (.cells #[.int .u64 (s1 : Int), .int .u64 (s2 : Int)] 39) := by
  go_enter Tryd.func62, Tryd.ntmps62
  go_wp2
  go_ret
  exact ⟨rfl, rfl⟩
theorem collect_any (Bs : Nat) (s : Nat × Nat) (hs : NOk s) (w : World) (hBs : Bs < w.heap.size) (h0 : w.cell? ⟨Bs, 0, none⟩ = some (.int .u64 (s.1 : Int))) (h1 : w.cell? ⟨Bs, 1, none⟩ = some (.int .u64 (s.2 : Int))) (ht : DTab w) :
    Calls Tryd.prog 61 #[.func (.func 72) #[] #[.pointer (some ⟨Bs, 0, none⟩)]] w fun e W' => ∃ v, e = .returned v ∧ W'.ownsRow w.heap.size 3 1 v (listN s).length ((listN s).map i64v) ∧ Below w.heap.size w W' := by
  have HA := Lib.hid (appendSeq_any Bs s hs w hBs h0 h1 ht)
  clear h0 h1 ht hs
  go_enter Tryd.func61, Tryd.ntmps61
  go_wp2_with fail
  refine HA.out.mono ?_
  rintro e w1 ⟨v, rfl, h2, h3⟩
  have H2 := Lib.hid h2
  have H3 := Lib.hid h3
  clear h2 h3
  go_wp2
  go_ret
  exact ⟨_, rfl, H2.out, H3.out⟩
set_option maxRecDepth 100000 in
set_option maxHeartbeats 1000000 in
theorem members_any (s : Nat × Nat) (hs : NOk s) (w : World) (ht : DTab w) :
    Calls Tryd.prog 44 #[nv s] w (RetInts w (listN s)) := by
  have hm0 := ((Hp.start w).new 39 (ncs s)).new 39 (ncs s)
  simp only [World.size_alloc, List.nil_append, List.cons_append] at hm0
  have hco := collect_any (w.heap.size + 1) s hs _ (hm0.at_ 1 rfl).lt ((hm0.at_ 1 rfl).cell 0) ((hm0.at_ 1 rfl).cell 1) (ht.below hm0.below)
  have HCO := Lib.hid hco
  have HB := Lib.hid hm0.below
  obtain ⟨l, hl⟩ : ∃ l, l = listN s := ⟨_, rfl⟩
  rw [← hl] at HCO ⊢
  obtain ⟨s1, s2⟩ := s
  unfold nv
  dsimp only
  have HAL := Lib.hid (fun W => all_any s1 s2 W)
  clear hm0 hco hl ht hs
  go_enter Tryd.func44, Tryd.ntmps44
  go_wp2_with fail
  refine (HAL.out _).mono ?_
  rintro e w1 ⟨rfl, rfl⟩
  go_wp2_with fail
  refine HCO.out.mono ?_
  rintro e w2 ⟨v, rfl, h2, h3⟩
  obtain ⟨A, c, rfl⟩ := retInts_of h2
  have H2 := Lib.hid (own_low h2 HB.out.size)
  have H3 := Lib.hid (HB.out.trans (h3.mono HB.out.size))
  clear h2 h3
  go_wp2
  go_ret
  exact ⟨A, c, rfl, H2.out, H3.out⟩

end Go.Proofs.YtfickhncbahekaaDoor
