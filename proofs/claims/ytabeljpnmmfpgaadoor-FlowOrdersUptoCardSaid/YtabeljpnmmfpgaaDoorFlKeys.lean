/-
  slices.Collect over the keys of a set of addresses, and of a map of instructions: each key once, in some order.
-/
import Derived.RangeFuncNested
import Derived.RangeFuncBound
import Derived.RangeFuncCalls
import Derived.RangeFuncLeaves
import Derived.RangeFuncBox
import Derived.Shelf.Abstract
import Derived.Shelf.RegionOpen
import Derived.WalkKit
import Derived.OwnWalkIn
import Derived.TacticsInMore
import Derived.LoopNIn
import Derived.LoopIn
import Derived.Maps.OwnIn
import Derived.Maps.AppendAt
import Derived.Sort.MapsRangeIn
import Derived.Sort.KeysCollected
import Derived.Test.YtabeljpnmmfpgaaDoorBase
import Derived.Test.YtabeljpnmmfpgaaDoorProg
namespace Go.Proofs.YtabeljpnmmfpgaaDoor
open Go.RowKit Go.Shelf Go.Maps Go.Sort Go.MapKept Go.Proofs
set_option linter.unusedVariables false
set_option linter.unusedSimpArgs false
attribute [local go_sem] Oper.semAt_some

/-- The keys that have come: none twice, those that are no more to come. -/
def Come {H : Type} (D0 : DataW H) (left : Lit → Bool) (ss : List Int) : Prop := ss.Nodup ∧ ∀ x, x ∈ ss ↔ (has D0 (.int .u16 x) = true ∧ left (.int .u16 x) = false)
theorem Come.start {H : Type} (D0 : DataW H) : Come D0 (has D0) [] := ⟨List.nodup_nil, fun x => by cases has D0 (.int .u16 x) <;> simp⟩
theorem Come.step {H : Type} {D0 : DataW H} {left : Lit → Bool} {ss : List Int} (h : Come D0 left ss) {x : Int} {y : DataW H} (hlk : left (.int .u16 x) = true) (hat : ∀ zd, D0.atKey (.int .u16 x) zd = y) : Come D0 (fun z => left z && !z.sameKey (.int .u16 x)) (ss ++ [x]) := by
  have hhas : has D0 (.int .u16 x) = true := has_true_of_atKey hat
  have hnew : x ∉ ss := fun hx => by have := ((h.2 x).1 hx).2; rw [hlk] at this; cases this
  refine ⟨List.nodup_append.2 ⟨h.1, by simp, fun a ha b hb => by simp at hb; subst hb; exact fun e => hnew (e ▸ ha)⟩, fun y => ?_⟩
  by_cases hy : y = x
  · subst hy; simp [hhas, Lit.sameKey]
  · simp [h.2 y, hy, Lit.sameKey]

/-- All keys of the map, each once. -/
def AllKeys {H : Type} (D0 : DataW H) (ss : List Int) : Prop := ss.Nodup ∧ ∀ x, x ∈ ss ↔ has D0 (.int .u16 x) = true

set_option maxRecDepth 100000 in
set_option maxHeartbeats 2000000 in
theorem keysIterS {H : Type} (n : Nat) (hn : 1 ≤ n) (Bm b nn : Nat) (D0 : DataW H) (R : Value → Option (DataW H × List MemPlace)) (w : World) (hBm : Bm < w.heap.size) (hm0 : w.cell? ⟨Bm, 0, none⟩ = some (.map (some b))) (hown0 : w.ownsMap Tryd.prog 23 R b nn D0) :
    SeqStopsK Fence.wide n Tryd.prog 67 #[.pointer (some ⟨Bm, 0, none⟩)] (fun x : Int => #[Value.int .u16 x]) KeepsWalks (AllKeys D0) (fun _ => True) (Maps.size D0) w := by
  intro l J Jx W hWb hJ _ hY h0
  have hm : W.cell? ⟨Bm, 0, none⟩ = some (.map (some b)) := (hWb.cell (p := ⟨Bm, 0, none⟩) hBm).trans hm0
  have hown : W.ownsMap Tryd.prog 23 R b nn D0 := by
    have hbl := hown0.lt
    obtain ⟨es, clock, hb, Ft, hs, hD⟩ := hown0
    exact ⟨es, clock, (hWb.block b hbl).trans hb, Ft, hs, hD⟩
  have law := Maps.int_keyed Tryd.underlying23
  clear hm0 hown0 hWb
  show CallsIn Fence.wide n Tryd.prog 67 #[.func (.yield l) #[] #[], .pointer (some ⟨Bm, 0, none⟩)] W _
  refine callsIn_of_wp Tryd.func67 rfl trivial ?_ rfl
  simp only [Tryd.ntmps67, List.size_toArray, List.length_cons, List.length_nil, Nat.reduceAdd, Nat.reduceSub, Array.replicate_succ, Array.replicate_zero, List.push_toArray, List.append_toArray, List.nil_append, List.cons_append]
  gi_wp2_with (first
    | (gi_at_range; refine wpListIn_range_own _ rfl _ 80 rfl 23 4 law Tryd.underlying80 R b nn _ rfl hown ?_; intro w0 hrg0 hg0 hs0)
    | gi_in)
  try go_frame
  gi_loopw [3] (fun _ wr => ∃ (left : Lit → Bool) (cnt : Nat) (ss : List Int), wr.ranges Tryd.prog 23 R b W.heap.size nn D0 left cnt ∧ ss.length + cnt ≤ Maps.size D0 ∧ Come D0 left ss ∧ J ss wr)
    (fun _ wr => wr.rangeLeft b W.heap.size)
  case atStart =>
    exact ⟨_, _, [], hrg0, by simp, Come.start D0, hJ [] W w0 none h0 hg0 (fun r e => by cases e)⟩
  case round =>
    obtain ⟨left, cnt, ss, hrg, hcs, hC, hJs⟩ := hrel
    gi_wp2_with (first
      | (gi_at_next; refine wpListIn_next_ranges _ rfl _ rfl 23 law R (Value.int .u16) (fun v : Value => v) (fun key kl hk => by obtain ⟨x, hx, _⟩ := Maps.keyOf_int_inv Tryd.underlying23 hk; exact ⟨x, hx⟩) (fun v y hv => ⟨v, rfl⟩) b W.heap.size nn _ _ _ rfl hrg ?_ ?_)
      | gi_in)
    · intro hc0 hl0
      gi_wp2
      go_end0
      exact ⟨⟨_, rfl⟩, .inl ⟨ss, ⟨hC.1, fun x => by rw [hC.2 x, hl0]; simp⟩, hJs⟩⟩
    · intro x c kl yd yp w2 cnt2 hkey hlk hv hat hrg2 hlt hg2 hs2 hen
      obtain ⟨x', ex, rfl, _⟩ := Maps.keyOf_int_inv Tryd.underlying23 hkey
      obtain rfl : x = x' := by simpa using ex
      have hJ2 : J ss w2 := hJ ss wr w2 (some W.heap.size) hJs hg2 (fun r e => by cases e; exact ⟨Nat.le_refl _, hrg.iter_walk⟩)
      obtain ⟨fn, tmps, assign, body, hy, hR⟩ := hY ss x w2 hJ2 (by omega)
      try dsimp only at hy
      clear hs2
      gi_wp2
      refine hR.mono ?_
      have hC2 := hC.step hlk hat
      rintro e W3 (⟨rfl, hJ3, hk3⟩ | ⟨rfl, hJx3⟩)
      · gi_wp2
        have hrg3 := hrg2.of_walks hk3
        go_roundw
        case rel => exact ⟨_, cnt2, ss ++ [x], hrg3, by simp; omega, hC2, hJ3⟩
        case measure => rw [hrg3.left_eq, hrg.left_eq]; exact hlt
      · gi_wp2
        refine bodyPost_ret (results_none rfl _ _ _) rfl ?_
        exact ⟨⟨_, rfl⟩, .inr ⟨ss ++ [x], trivial, hJx3⟩⟩

set_option maxRecDepth 100000 in
set_option maxHeartbeats 2000000 in
theorem keysIterF {H : Type} (n : Nat) (hn : 1 ≤ n) (Bm b nn : Nat) (D0 : DataW H) (R : Value → Option (DataW H × List MemPlace)) (w : World) (hBm : Bm < w.heap.size) (hm0 : w.cell? ⟨Bm, 0, none⟩ = some (.map (some b))) (hown0 : w.ownsMap Tryd.prog 23 R b nn D0) :
    SeqStopsK Fence.wide n Tryd.prog 69 #[.pointer (some ⟨Bm, 0, none⟩)] (fun x : Int => #[Value.int .u16 x]) KeepsWalks (AllKeys D0) (fun _ => True) (Maps.size D0) w := by
  intro l J Jx W hWb hJ _ hY h0
  have hm : W.cell? ⟨Bm, 0, none⟩ = some (.map (some b)) := (hWb.cell (p := ⟨Bm, 0, none⟩) hBm).trans hm0
  have hown : W.ownsMap Tryd.prog 23 R b nn D0 := by
    have hbl := hown0.lt
    obtain ⟨es, clock, hb, Ft, hs, hD⟩ := hown0
    exact ⟨es, clock, (hWb.block b hbl).trans hb, Ft, hs, hD⟩
  have law := Maps.int_keyed Tryd.underlying23
  clear hm0 hown0 hWb
  show CallsIn Fence.wide n Tryd.prog 69 #[.func (.yield l) #[] #[], .pointer (some ⟨Bm, 0, none⟩)] W _
  refine callsIn_of_wp Tryd.func69 rfl trivial ?_ rfl
  simp only [Tryd.ntmps69, List.size_toArray, List.length_cons, List.length_nil, Nat.reduceAdd, Nat.reduceSub, Array.replicate_succ, Array.replicate_zero, List.push_toArray, List.append_toArray, List.nil_append, List.cons_append]
  gi_wp2_with (first
    | (gi_at_range; refine wpListIn_range_own _ rfl _ 109 rfl 23 60 law Tryd.underlying109 R b nn _ rfl hown ?_; intro w0 hrg0 hg0 hs0)
    | gi_in)
  try go_frame
  gi_loopw [3] (fun _ wr => ∃ (left : Lit → Bool) (cnt : Nat) (ss : List Int), wr.ranges Tryd.prog 23 R b W.heap.size nn D0 left cnt ∧ ss.length + cnt ≤ Maps.size D0 ∧ Come D0 left ss ∧ J ss wr)
    (fun _ wr => wr.rangeLeft b W.heap.size)
  case atStart =>
    exact ⟨_, _, [], hrg0, by simp, Come.start D0, hJ [] W w0 none h0 hg0 (fun r e => by cases e)⟩
  case round =>
    obtain ⟨left, cnt, ss, hrg, hcs, hC, hJs⟩ := hrel
    gi_wp2_with (first
      | (gi_at_next; refine wpListIn_next_ranges _ rfl _ rfl 23 law R (Value.int .u16) (fun v : Value => v) (fun key kl hk => by obtain ⟨x, hx, _⟩ := Maps.keyOf_int_inv Tryd.underlying23 hk; exact ⟨x, hx⟩) (fun v y hv => ⟨v, rfl⟩) b W.heap.size nn _ _ _ rfl hrg ?_ ?_)
      | gi_in)
    · intro hc0 hl0
      gi_wp2
      go_end0
      exact ⟨⟨_, rfl⟩, .inl ⟨ss, ⟨hC.1, fun x => by rw [hC.2 x, hl0]; simp⟩, hJs⟩⟩
    · intro x c kl yd yp w2 cnt2 hkey hlk hv hat hrg2 hlt hg2 hs2 hen
      obtain ⟨x', ex, rfl, _⟩ := Maps.keyOf_int_inv Tryd.underlying23 hkey
      obtain rfl : x = x' := by simpa using ex
      have hJ2 : J ss w2 := hJ ss wr w2 (some W.heap.size) hJs hg2 (fun r e => by cases e; exact ⟨Nat.le_refl _, hrg.iter_walk⟩)
      obtain ⟨fn, tmps, assign, body, hy, hR⟩ := hY ss x w2 hJ2 (by omega)
      try dsimp only at hy
      clear hs2
      gi_wp2
      refine hR.mono ?_
      have hC2 := hC.step hlk hat
      rintro e W3 (⟨rfl, hJ3, hk3⟩ | ⟨rfl, hJx3⟩)
      · gi_wp2
        have hrg3 := hrg2.of_walks hk3
        go_roundw
        case rel => exact ⟨_, cnt2, ss ++ [x], hrg3, by simp; omega, hC2, hJ3⟩
        case measure => rw [hrg3.left_eq, hrg.left_eq]; exact hlt
      · gi_wp2
        refine bodyPost_ret (results_none rfl _ _ _) rfl ?_
        exact ⟨⟨_, rfl⟩, .inr ⟨ss ++ [x], trivial, hJx3⟩⟩

theorem infoCell : (Tryd.prog.info? 23).map (fun i => (i.zero, i.size, i.bytes)) = some (some (.int .u16 0), 1, 2) := by kernel_rfl

set_option maxRecDepth 100000 in
set_option maxHeartbeats 2000000 in
theorem appendKeysS {H : Type} (Bm b nn : Nat) (D0 : DataW H) (R : Value → Option (DataW H × List MemPlace)) (w : World) (hBm : Bm < w.heap.size) (hm0 : w.cell? ⟨Bm, 0, none⟩ = some (.map (some b))) (hown0 : w.ownsMap Tryd.prog 23 R b nn D0) (hsz : Maps.size D0 ≤ 1000000) :
    Calls Tryd.prog 66 #[.slice none 0 0, .func (.func 67) #[] #[.pointer (some ⟨Bm, 0, none⟩)]] w fun e W' => ∃ v ss, e = .returned v ∧ AllKeys D0 ss ∧ W'.ownsRow w.heap.size 23 1 v ss.length (ss.map (Value.int .u16)) ∧ (v = .slice none 0 0 ↔ ss = []) ∧ Below w.heap.size w W' := by
  refine (callsIn_wide (n := 5)).1 ?_
  obtain ⟨i0, hi, hz0, hz1, hz2⟩ := info_parts infoCell
  refine callsIn_of_wp_marks Tryd.func66 rfl trivial ?_ rfl
  simp only [Tryd.ntmps66, List.size_toArray, List.length_cons, List.length_nil, Nat.reduceAdd, Nat.reduceSub, Array.replicate_succ, Array.replicate_zero, List.push_toArray, List.append_toArray, List.nil_append, List.cons_append]
  gi_wp2
  have bO := Boxed.new w 51 (.slice none 0 0)
  have hB0 : Below w.heap.size w (w.alloc (.cells #[.slice none 0 0] 51)) := (Below.refl _ w).alloc (Nat.le_refl _) _
  have hm1 : (w.alloc (.cells #[.slice none 0 0] 51)).cell? ⟨Bm, 0, none⟩ = some (.map (some b)) := (hB0.cell (p := ⟨Bm, 0, none⟩) hBm).trans hm0
  have hown1 : (w.alloc (.cells #[.slice none 0 0] 51)).ownsMap Tryd.prog 23 R b nn D0 := by
    have hbl := hown0.lt
    obtain ⟨es, clock, hb, Ft, hs, hD⟩ := hown0
    exact ⟨es, clock, (hB0.block b hbl).trans hb, Ft, hs, hD⟩
  refine wpIn_rangeFunc_ownG rfl (by omega) (gf := 67) (lb := #[.pointer (some ⟨Bm, 0, none⟩)]) rfl trivial (enters_of Tryd.func67 (by kernel_rfl) rfl)
    (keysIterS (5 - 1) (by omega) Bm b nn D0 R _ (by simp; omega) hm1 hown1) walksK_t walksK_b (Below.refl _ _) (fun _ => rfl)
    (fun pre W => (∃ v, Boxed W w.heap.size 51 v ∧ W.ownsRow w.heap.size 23 1 v pre.length (pre.map (Value.int .u16)) ∧ (v = .slice none 0 0 ↔ pre = [])) ∧ Below w.heap.size w W)
    (fun _ _ _ => False)
    (OwnFrom.and (Own.from (holdsRow_own w.heap.size w.heap.size 51 23 1 (fun pre : List Int => pre.length) (fun pre => pre.map (Value.int .u16)) (fun pre v => v = .slice none 0 0 ↔ pre = [])) _) (ownFrom_below (Nat.le_refl _) (by simp)))
    (fun _ _ _ _ _ hs _ _ => hs)
    ⟨⟨_, bO, World.ownsRow_nil _ _ _ _, by simp⟩, hB0⟩
    (fun x => { tmps := #[.slice none 0 0, .func (.func 67) #[] #[.pointer (some ⟨Bm, 0, none⟩)], .pointer (some ⟨w.heap.size, 0, none⟩), undef, .slice none 0 0, .int .u16 x, .func (.func 67) #[] #[.pointer (some ⟨Bm, 0, none⟩)], .int .u16 x, undef, undef, undef, undef, undef], defers := [] }) ?assign ?body ?done ?stop
  case assign =>
    intro l x W K hK
    gi_wp2
    exact hK
  case body =>
    rintro l pre x W ⟨⟨v, hv, hrow, hnil⟩, hB⟩ hlt
    have hc := hv.cell
    gi_wp2_with (gi_at_builtin; refine wpListIn_append_own _ rfl _ _ 51 rfl w.heap.size 23 i0 (.int .u16 0) 1 2 Tryd.underlying51 hi hz0 hz1 hz2 rfl (by decide) _ _ _ rfl (hrow.alloc _) ⟨W.heap.size, 0, none⟩ 1 1 [.int .u16 x] rfl rfl (cell_one_new _ _ _) (by simp [Value.oneCell']) (by simp only [maxLen]; omega) (by omega) (by have := hB.size; simp; omega) ?_; intro v' w1 hown' hgrow _; obtain ⟨g', cap', rfl⟩ := ownsRow_succ hown'; obtain ⟨hv1, hv2, hr2, hk2, hb2⟩ := hv.appended (by decide) hrow hB.size (Nat.le_refl _) hown' hgrow; have hc1 := hv1.cell; have hf1 := hv1.frozen)
    exact ⟨hk2.from _, hk2.walks, ⟨_, hv2, by simpa using hr2, by simp⟩, hB.trans hb2⟩
  case done =>
    rintro D ys W hD hS ⟨⟨v, hv, hrow, hnil⟩, hB⟩ hK
    have hc := hv.cell
    gi_wp2
    refine ⟨by simp, .inl ⟨_, _, rfl, run_takeDeferred hK, ?_⟩⟩
    exact ⟨_, results_tmp rfl _ _ _, v, ys, rfl, hS, ownsRow_putObj hrow _ hK rfl, hnil, hB.trans (belowK_b (w := w) (Nat.le_refl _) W D _ _ (by simp at hD; omega) hK rfl rfl)⟩
  case stop =>
    rintro D c pre W _ _ h _
    exact h.elim
set_option maxRecDepth 100000 in
set_option maxHeartbeats 2000000 in
theorem appendKeysF {H : Type} (Bm b nn : Nat) (D0 : DataW H) (R : Value → Option (DataW H × List MemPlace)) (w : World) (hBm : Bm < w.heap.size) (hm0 : w.cell? ⟨Bm, 0, none⟩ = some (.map (some b))) (hown0 : w.ownsMap Tryd.prog 23 R b nn D0) (hsz : Maps.size D0 ≤ 1000000) :
    Calls Tryd.prog 66 #[.slice none 0 0, .func (.func 69) #[] #[.pointer (some ⟨Bm, 0, none⟩)]] w fun e W' => ∃ v ss, e = .returned v ∧ AllKeys D0 ss ∧ W'.ownsRow w.heap.size 23 1 v ss.length (ss.map (Value.int .u16)) ∧ (v = .slice none 0 0 ↔ ss = []) ∧ Below w.heap.size w W' := by
  refine (callsIn_wide (n := 5)).1 ?_
  obtain ⟨i0, hi, hz0, hz1, hz2⟩ := info_parts infoCell
  refine callsIn_of_wp_marks Tryd.func66 rfl trivial ?_ rfl
  simp only [Tryd.ntmps66, List.size_toArray, List.length_cons, List.length_nil, Nat.reduceAdd, Nat.reduceSub, Array.replicate_succ, Array.replicate_zero, List.push_toArray, List.append_toArray, List.nil_append, List.cons_append]
  gi_wp2
  have bO := Boxed.new w 51 (.slice none 0 0)
  have hB0 : Below w.heap.size w (w.alloc (.cells #[.slice none 0 0] 51)) := (Below.refl _ w).alloc (Nat.le_refl _) _
  have hm1 : (w.alloc (.cells #[.slice none 0 0] 51)).cell? ⟨Bm, 0, none⟩ = some (.map (some b)) := (hB0.cell (p := ⟨Bm, 0, none⟩) hBm).trans hm0
  have hown1 : (w.alloc (.cells #[.slice none 0 0] 51)).ownsMap Tryd.prog 23 R b nn D0 := by
    have hbl := hown0.lt
    obtain ⟨es, clock, hb, Ft, hs, hD⟩ := hown0
    exact ⟨es, clock, (hB0.block b hbl).trans hb, Ft, hs, hD⟩
  refine wpIn_rangeFunc_ownG rfl (by omega) (gf := 69) (lb := #[.pointer (some ⟨Bm, 0, none⟩)]) rfl trivial (enters_of Tryd.func69 (by kernel_rfl) rfl)
    (keysIterF (5 - 1) (by omega) Bm b nn D0 R _ (by simp; omega) hm1 hown1) walksK_t walksK_b (Below.refl _ _) (fun _ => rfl)
    (fun pre W => (∃ v, Boxed W w.heap.size 51 v ∧ W.ownsRow w.heap.size 23 1 v pre.length (pre.map (Value.int .u16)) ∧ (v = .slice none 0 0 ↔ pre = [])) ∧ Below w.heap.size w W)
    (fun _ _ _ => False)
    (OwnFrom.and (Own.from (holdsRow_own w.heap.size w.heap.size 51 23 1 (fun pre : List Int => pre.length) (fun pre => pre.map (Value.int .u16)) (fun pre v => v = .slice none 0 0 ↔ pre = [])) _) (ownFrom_below (Nat.le_refl _) (by simp)))
    (fun _ _ _ _ _ hs _ _ => hs)
    ⟨⟨_, bO, World.ownsRow_nil _ _ _ _, by simp⟩, hB0⟩
    (fun x => { tmps := #[.slice none 0 0, .func (.func 69) #[] #[.pointer (some ⟨Bm, 0, none⟩)], .pointer (some ⟨w.heap.size, 0, none⟩), undef, .slice none 0 0, .int .u16 x, .func (.func 69) #[] #[.pointer (some ⟨Bm, 0, none⟩)], .int .u16 x, undef, undef, undef, undef, undef], defers := [] }) ?assign ?body ?done ?stop
  case assign =>
    intro l x W K hK
    gi_wp2
    exact hK
  case body =>
    rintro l pre x W ⟨⟨v, hv, hrow, hnil⟩, hB⟩ hlt
    have hc := hv.cell
    gi_wp2_with (gi_at_builtin; refine wpListIn_append_own _ rfl _ _ 51 rfl w.heap.size 23 i0 (.int .u16 0) 1 2 Tryd.underlying51 hi hz0 hz1 hz2 rfl (by decide) _ _ _ rfl (hrow.alloc _) ⟨W.heap.size, 0, none⟩ 1 1 [.int .u16 x] rfl rfl (cell_one_new _ _ _) (by simp [Value.oneCell']) (by simp only [maxLen]; omega) (by omega) (by have := hB.size; simp; omega) ?_; intro v' w1 hown' hgrow _; obtain ⟨g', cap', rfl⟩ := ownsRow_succ hown'; obtain ⟨hv1, hv2, hr2, hk2, hb2⟩ := hv.appended (by decide) hrow hB.size (Nat.le_refl _) hown' hgrow; have hc1 := hv1.cell; have hf1 := hv1.frozen)
    exact ⟨hk2.from _, hk2.walks, ⟨_, hv2, by simpa using hr2, by simp⟩, hB.trans hb2⟩
  case done =>
    rintro D ys W hD hS ⟨⟨v, hv, hrow, hnil⟩, hB⟩ hK
    have hc := hv.cell
    gi_wp2
    refine ⟨by simp, .inl ⟨_, _, rfl, run_takeDeferred hK, ?_⟩⟩
    exact ⟨_, results_tmp rfl _ _ _, v, ys, rfl, hS, ownsRow_putObj hrow _ hK rfl, hnil, hB.trans (belowK_b (w := w) (Nat.le_refl _) W D _ _ (by simp at hD; omega) hK rfl rfl)⟩
  case stop =>
    rintro D c pre W _ _ h _
    exact h.elim
end Go.Proofs.YtabeljpnmmfpgaaDoor
