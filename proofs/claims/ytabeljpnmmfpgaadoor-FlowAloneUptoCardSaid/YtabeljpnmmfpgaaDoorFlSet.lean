/-
  slices.Collect over the keys of a set of addresses, and of a map of instructions: each key once, in some order.
  Sets of addresses and maps keyed by addresses: their keys in order; the least of a set.
  The least address of a set, taken out; the keys of a set, or of a map of instructions, in order.
-/
import Derived.RangeFuncNested
import Derived.RangeFuncBound
import Derived.RangeFuncCalls
import Derived.RangeFuncLeaves
import Derived.RangeFuncBox
import Derived.Shelf.Abstract
import Derived.Shelf.RegionOpen
import Derived.WalkKit
import Derived.OwnWalkIn
import Derived.TacticsInMore
import Derived.LoopNIn
import Derived.LoopIn
import Derived.Maps.OwnIn
import Derived.Maps.AppendAt
import Derived.Sort.MapsRangeIn
import Derived.Sort.KeysCollected
import Derived.Test.YtabeljpnmmfpgaaDoorBase
import Derived.Test.YtabeljpnmmfpgaaDoorProg
import Derived.Test.YtabeljpnmmfpgaaDoorFlSort
import Derived.Lib.Hide
import Derived.Laws.Small
namespace Go.Proofs.YtabeljpnmmfpgaaDoor
open Go.RowKit Go.Shelf Go.Maps Go.Sort Go.MapKept Go.Proofs
set_option linter.unusedVariables false
set_option linter.unusedSimpArgs false
attribute [local go_sem] Oper.semAt_some

/-- The keys that have come: none twice, those that are no more to come. -/
def Come {H : Type} (D0 : DataW H) (left : Lit → Bool) (ss : List Int) : Prop := ss.Nodup ∧ ∀ x, x ∈ ss ↔ (has D0 (.int .u16 x) = true ∧ left (.int .u16 x) = false)
theorem Come.start {H : Type} (D0 : DataW H) : Come D0 (has D0) [] := ⟨List.nodup_nil, fun x => by cases has D0 (.int .u16 x) <;> simp⟩
theorem Come.step {H : Type} {D0 : DataW H} {left : Lit → Bool} {ss : List Int} (h : Come D0 left ss) {x : Int} {y : DataW H} (hlk : left (.int .u16 x) = true) (hat : ∀ zd, D0.atKey (.int .u16 x) zd = y) : Come D0 (fun z => left z && !z.sameKey (.int .u16 x)) (ss ++ [x]) := by
  have hhas : has D0 (.int .u16 x) = true := has_true_of_atKey hat
  have hnew : x ∉ ss := fun hx => by have := ((h.2 x).1 hx).2; rw [hlk] at this; cases this
  refine ⟨List.nodup_append.2 ⟨h.1, by simp, fun a ha b hb => by simp at hb; subst hb; exact fun e => hnew (e ▸ ha)⟩, fun y => ?_⟩
  by_cases hy : y = x
  · subst hy; simp [hhas, Lit.sameKey]
  · simp [h.2 y, hy, Lit.sameKey]

/-- All keys of the map, each once. -/
def AllKeys {H : Type} (D0 : DataW H) (ss : List Int) : Prop := ss.Nodup ∧ ∀ x, x ∈ ss ↔ has D0 (.int .u16 x) = true

set_option maxRecDepth 100000 in
set_option maxHeartbeats 2000000 in
theorem keysIterS {H : Type} (n : Nat) (hn : 1 ≤ n) (Bm b nn : Nat) (D0 : DataW H) (R : Value → Option (DataW H × List MemPlace)) (w : World) (hBm : Bm < w.heap.size) (hm0 : w.cell? ⟨Bm, 0, none⟩ = some (.map (some b))) (hown0 : w.ownsMap Tryd.prog 23 R b nn D0) :
    SeqStopsK Fence.wide n Tryd.prog 67 #[.pointer (some ⟨Bm, 0, none⟩)] (fun x : Int => #[Value.int .u16 x]) KeepsWalks (AllKeys D0) (fun _ => True) (Maps.size D0) w := by
  intro l J Jx W hWb hJ _ hY h0
  have hm : W.cell? ⟨Bm, 0, none⟩ = some (.map (some b)) := (hWb.cell (p := ⟨Bm, 0, none⟩) hBm).trans hm0
  have hown : W.ownsMap Tryd.prog 23 R b nn D0 := by
    have hbl := hown0.lt
    obtain ⟨es, clock, hb, Ft, hs, hD⟩ := hown0
    exact ⟨es, clock, (hWb.block b hbl).trans hb, Ft, hs, hD⟩
  have law := Maps.int_keyed Tryd.underlying23
  clear hm0 hown0 hWb
  show CallsIn Fence.wide n Tryd.prog 67 #[.func (.yield l) #[] #[], .pointer (some ⟨Bm, 0, none⟩)] W _
  refine callsIn_of_wp Tryd.func67 rfl trivial ?_ rfl
  simp only [Tryd.ntmps67, List.size_toArray, List.length_cons, List.length_nil, Nat.reduceAdd, Nat.reduceSub, Array.replicate_succ, Array.replicate_zero, List.push_toArray, List.append_toArray, List.nil_append, List.cons_append]
  gi_wp2_with (first
    | (gi_at_range; refine wpListIn_range_own _ rfl _ 80 rfl 23 4 law Tryd.underlying80 R b nn _ rfl hown ?_; intro w0 hrg0 hg0 hs0)
    | gi_in)
  try go_frame
  gi_loopw [3] (fun _ wr => ∃ (left : Lit → Bool) (cnt : Nat) (ss : List Int), wr.ranges Tryd.prog 23 R b W.heap.size nn D0 left cnt ∧ ss.length + cnt ≤ Maps.size D0 ∧ Come D0 left ss ∧ J ss wr)
    (fun _ wr => wr.rangeLeft b W.heap.size)
  case atStart =>
    exact ⟨_, _, [], hrg0, by simp, Come.start D0, hJ [] W w0 none h0 hg0 (fun r e => by cases e)⟩
  case round =>
    obtain ⟨left, cnt, ss, hrg, hcs, hC, hJs⟩ := hrel
    gi_wp2_with (first
      | (gi_at_next; refine wpListIn_next_ranges _ rfl _ rfl 23 law R (Value.int .u16) (fun v : Value => v) (fun key kl hk => by obtain ⟨x, hx, _⟩ := Maps.keyOf_int_inv Tryd.underlying23 hk; exact ⟨x, hx⟩) (fun v y hv => ⟨v, rfl⟩) b W.heap.size nn _ _ _ rfl hrg ?_ ?_)
      | gi_in)
    · intro hc0 hl0
      gi_wp2
      go_end0
      exact ⟨⟨_, rfl⟩, .inl ⟨ss, ⟨hC.1, fun x => by rw [hC.2 x, hl0]; simp⟩, hJs⟩⟩
    · intro x c kl yd yp w2 cnt2 hkey hlk hv hat hrg2 hlt hg2 hs2 hen
      obtain ⟨x', ex, rfl, _⟩ := Maps.keyOf_int_inv Tryd.underlying23 hkey
      obtain rfl : x = x' := by simpa using ex
      have hJ2 : J ss w2 := hJ ss wr w2 (some W.heap.size) hJs hg2 (fun r e => by cases e; exact ⟨Nat.le_refl _, hrg.iter_walk⟩)
      obtain ⟨fn, tmps, assign, body, hy, hR⟩ := hY ss x w2 hJ2 (by omega)
      try dsimp only at hy
      clear hs2
      gi_wp2
      refine hR.mono ?_
      have hC2 := hC.step hlk hat
      rintro e W3 (⟨rfl, hJ3, hk3⟩ | ⟨rfl, hJx3⟩)
      · gi_wp2
        have hrg3 := hrg2.of_walks hk3
        go_roundw
        case rel => exact ⟨_, cnt2, ss ++ [x], hrg3, by simp; omega, hC2, hJ3⟩
        case measure => rw [hrg3.left_eq, hrg.left_eq]; exact hlt
      · gi_wp2
        refine bodyPost_ret (results_none rfl _ _ _) rfl ?_
        exact ⟨⟨_, rfl⟩, .inr ⟨ss ++ [x], trivial, hJx3⟩⟩

set_option maxRecDepth 100000 in
set_option maxHeartbeats 2000000 in
theorem keysIterF {H : Type} (n : Nat) (hn : 1 ≤ n) (Bm b nn : Nat) (D0 : DataW H) (R : Value → Option (DataW H × List MemPlace)) (w : World) (hBm : Bm < w.heap.size) (hm0 : w.cell? ⟨Bm, 0, none⟩ = some (.map (some b))) (hown0 : w.ownsMap Tryd.prog 23 R b nn D0) :
    SeqStopsK Fence.wide n Tryd.prog 69 #[.pointer (some ⟨Bm, 0, none⟩)] (fun x : Int => #[Value.int .u16 x]) KeepsWalks (AllKeys D0) (fun _ => True) (Maps.size D0) w := by
  intro l J Jx W hWb hJ _ hY h0
  have hm : W.cell? ⟨Bm, 0, none⟩ = some (.map (some b)) := (hWb.cell (p := ⟨Bm, 0, none⟩) hBm).trans hm0
  have hown : W.ownsMap Tryd.prog 23 R b nn D0 := by
    have hbl := hown0.lt
    obtain ⟨es, clock, hb, Ft, hs, hD⟩ := hown0
    exact ⟨es, clock, (hWb.block b hbl).trans hb, Ft, hs, hD⟩
  have law := Maps.int_keyed Tryd.underlying23
  clear hm0 hown0 hWb
  show CallsIn Fence.wide n Tryd.prog 69 #[.func (.yield l) #[] #[], .pointer (some ⟨Bm, 0, none⟩)] W _
  refine callsIn_of_wp Tryd.func69 rfl trivial ?_ rfl
  simp only [Tryd.ntmps69, List.size_toArray, List.length_cons, List.length_nil, Nat.reduceAdd, Nat.reduceSub, Array.replicate_succ, Array.replicate_zero, List.push_toArray, List.append_toArray, List.nil_append, List.cons_append]
  gi_wp2_with (first
    | (gi_at_range; refine wpListIn_range_own _ rfl _ 109 rfl 23 60 law Tryd.underlying109 R b nn _ rfl hown ?_; intro w0 hrg0 hg0 hs0)
    | gi_in)
  try go_frame
  gi_loopw [3] (fun _ wr => ∃ (left : Lit → Bool) (cnt : Nat) (ss : List Int), wr.ranges Tryd.prog 23 R b W.heap.size nn D0 left cnt ∧ ss.length + cnt ≤ Maps.size D0 ∧ Come D0 left ss ∧ J ss wr)
    (fun _ wr => wr.rangeLeft b W.heap.size)
  case atStart =>
    exact ⟨_, _, [], hrg0, by simp, Come.start D0, hJ [] W w0 none h0 hg0 (fun r e => by cases e)⟩
  case round =>
    obtain ⟨left, cnt, ss, hrg, hcs, hC, hJs⟩ := hrel
    gi_wp2_with (first
      | (gi_at_next; refine wpListIn_next_ranges _ rfl _ rfl 23 law R (Value.int .u16) (fun v : Value => v) (fun key kl hk => by obtain ⟨x, hx, _⟩ := Maps.keyOf_int_inv Tryd.underlying23 hk; exact ⟨x, hx⟩) (fun v y hv => ⟨v, rfl⟩) b W.heap.size nn _ _ _ rfl hrg ?_ ?_)
      | gi_in)
    · intro hc0 hl0
      gi_wp2
      go_end0
      exact ⟨⟨_, rfl⟩, .inl ⟨ss, ⟨hC.1, fun x => by rw [hC.2 x, hl0]; simp⟩, hJs⟩⟩
    · intro x c kl yd yp w2 cnt2 hkey hlk hv hat hrg2 hlt hg2 hs2 hen
      obtain ⟨x', ex, rfl, _⟩ := Maps.keyOf_int_inv Tryd.underlying23 hkey
      obtain rfl : x = x' := by simpa using ex
      have hJ2 : J ss w2 := hJ ss wr w2 (some W.heap.size) hJs hg2 (fun r e => by cases e; exact ⟨Nat.le_refl _, hrg.iter_walk⟩)
      obtain ⟨fn, tmps, assign, body, hy, hR⟩ := hY ss x w2 hJ2 (by omega)
      try dsimp only at hy
      clear hs2
      gi_wp2
      refine hR.mono ?_
      have hC2 := hC.step hlk hat
      rintro e W3 (⟨rfl, hJ3, hk3⟩ | ⟨rfl, hJx3⟩)
      · gi_wp2
        have hrg3 := hrg2.of_walks hk3
        go_roundw
        case rel => exact ⟨_, cnt2, ss ++ [x], hrg3, by simp; omega, hC2, hJ3⟩
        case measure => rw [hrg3.left_eq, hrg.left_eq]; exact hlt
      · gi_wp2
        refine bodyPost_ret (results_none rfl _ _ _) rfl ?_
        exact ⟨⟨_, rfl⟩, .inr ⟨ss ++ [x], trivial, hJx3⟩⟩

theorem infoCell : (Tryd.prog.info? 23).map (fun i => (i.zero, i.size, i.bytes)) = some (some (.int .u16 0), 1, 2) := by kernel_rfl

set_option maxRecDepth 100000 in
set_option maxHeartbeats 2000000 in
theorem appendKeysS {H : Type} (Bm b nn : Nat) (D0 : DataW H) (R : Value → Option (DataW H × List MemPlace)) (w : World) (hBm : Bm < w.heap.size) (hm0 : w.cell? ⟨Bm, 0, none⟩ = some (.map (some b))) (hown0 : w.ownsMap Tryd.prog 23 R b nn D0) (hsz : Maps.size D0 ≤ 1000000) :
    Calls Tryd.prog 66 #[.slice none 0 0, .func (.func 67) #[] #[.pointer (some ⟨Bm, 0, none⟩)]] w fun e W' => ∃ v ss, e = .returned v ∧ AllKeys D0 ss ∧ W'.ownsRow w.heap.size 23 1 v ss.length (ss.map (Value.int .u16)) ∧ (v = .slice none 0 0 ↔ ss = []) ∧ Below w.heap.size w W' := by
  refine (callsIn_wide (n := 5)).1 ?_
  obtain ⟨i0, hi, hz0, hz1, hz2⟩ := info_parts infoCell
  refine callsIn_of_wp_marks Tryd.func66 rfl trivial ?_ rfl
  simp only [Tryd.ntmps66, List.size_toArray, List.length_cons, List.length_nil, Nat.reduceAdd, Nat.reduceSub, Array.replicate_succ, Array.replicate_zero, List.push_toArray, List.append_toArray, List.nil_append, List.cons_append]
  gi_wp2
  have bO := Boxed.new w 51 (.slice none 0 0)
  have hB0 : Below w.heap.size w (w.alloc (.cells #[.slice none 0 0] 51)) := (Below.refl _ w).alloc (Nat.le_refl _) _
  have hm1 : (w.alloc (.cells #[.slice none 0 0] 51)).cell? ⟨Bm, 0, none⟩ = some (.map (some b)) := (hB0.cell (p := ⟨Bm, 0, none⟩) hBm).trans hm0
  have hown1 : (w.alloc (.cells #[.slice none 0 0] 51)).ownsMap Tryd.prog 23 R b nn D0 := by
    have hbl := hown0.lt
    obtain ⟨es, clock, hb, Ft, hs, hD⟩ := hown0
    exact ⟨es, clock, (hB0.block b hbl).trans hb, Ft, hs, hD⟩
  refine wpIn_rangeFunc_ownG rfl (by omega) (gf := 67) (lb := #[.pointer (some ⟨Bm, 0, none⟩)]) rfl trivial (enters_of Tryd.func67 (by kernel_rfl) rfl)
    (keysIterS (5 - 1) (by omega) Bm b nn D0 R _ (by simp; omega) hm1 hown1) walksK_t walksK_b (Below.refl _ _) (fun _ => rfl)
    (fun pre W => (∃ v, Boxed W w.heap.size 51 v ∧ W.ownsRow w.heap.size 23 1 v pre.length (pre.map (Value.int .u16)) ∧ (v = .slice none 0 0 ↔ pre = [])) ∧ Below w.heap.size w W)
    (fun _ _ _ => False)
    (OwnFrom.and (Own.from (holdsRow_own w.heap.size w.heap.size 51 23 1 (fun pre : List Int => pre.length) (fun pre => pre.map (Value.int .u16)) (fun pre v => v = .slice none 0 0 ↔ pre = [])) _) (ownFrom_below (Nat.le_refl _) (by simp)))
    (fun _ _ _ _ _ hs _ _ => hs)
    ⟨⟨_, bO, World.ownsRow_nil _ _ _ _, by simp⟩, hB0⟩
    (fun x => { tmps := #[.slice none 0 0, .func (.func 67) #[] #[.pointer (some ⟨Bm, 0, none⟩)], .pointer (some ⟨w.heap.size, 0, none⟩), undef, .slice none 0 0, .int .u16 x, .func (.func 67) #[] #[.pointer (some ⟨Bm, 0, none⟩)], .int .u16 x, undef, undef, undef, undef, undef], defers := [] }) ?assign ?body ?done ?stop
  case assign =>
    intro l x W K hK
    gi_wp2
    exact hK
  case body =>
    rintro l pre x W ⟨⟨v, hv, hrow, hnil⟩, hB⟩ hlt
    have hc := hv.cell
    gi_wp2_with (gi_at_builtin; refine wpListIn_append_own _ rfl _ _ 51 rfl w.heap.size 23 i0 (.int .u16 0) 1 2 Tryd.underlying51 hi hz0 hz1 hz2 rfl (by decide) _ _ _ rfl (hrow.alloc _) ⟨W.heap.size, 0, none⟩ 1 1 [.int .u16 x] rfl rfl (cell_one_new _ _ _) (by simp [Value.oneCell']) (by simp only [maxLen]; omega) (by omega) (by have := hB.size; simp; omega) ?_; intro v' w1 hown' hgrow _; obtain ⟨g', cap', rfl⟩ := ownsRow_succ hown'; obtain ⟨hv1, hv2, hr2, hk2, hb2⟩ := hv.appended (by decide) hrow hB.size (Nat.le_refl _) hown' hgrow; have hc1 := hv1.cell; have hf1 := hv1.frozen)
    exact ⟨hk2.from _, hk2.walks, ⟨_, hv2, by simpa using hr2, by simp⟩, hB.trans hb2⟩
  case done =>
    rintro D ys W hD hS ⟨⟨v, hv, hrow, hnil⟩, hB⟩ hK
    have hc := hv.cell
    gi_wp2
    refine ⟨by simp, .inl ⟨_, _, rfl, run_takeDeferred hK, ?_⟩⟩
    exact ⟨_, results_tmp rfl _ _ _, v, ys, rfl, hS, ownsRow_putObj hrow _ hK rfl, hnil, hB.trans (belowK_b (w := w) (Nat.le_refl _) W D _ _ (by simp at hD; omega) hK rfl rfl)⟩
  case stop =>
    rintro D c pre W _ _ h _
    exact h.elim
set_option maxRecDepth 100000 in
set_option maxHeartbeats 2000000 in
theorem appendKeysF {H : Type} (Bm b nn : Nat) (D0 : DataW H) (R : Value → Option (DataW H × List MemPlace)) (w : World) (hBm : Bm < w.heap.size) (hm0 : w.cell? ⟨Bm, 0, none⟩ = some (.map (some b))) (hown0 : w.ownsMap Tryd.prog 23 R b nn D0) (hsz : Maps.size D0 ≤ 1000000) :
    Calls Tryd.prog 66 #[.slice none 0 0, .func (.func 69) #[] #[.pointer (some ⟨Bm, 0, none⟩)]] w fun e W' => ∃ v ss, e = .returned v ∧ AllKeys D0 ss ∧ W'.ownsRow w.heap.size 23 1 v ss.length (ss.map (Value.int .u16)) ∧ (v = .slice none 0 0 ↔ ss = []) ∧ Below w.heap.size w W' := by
  refine (callsIn_wide (n := 5)).1 ?_
  obtain ⟨i0, hi, hz0, hz1, hz2⟩ := info_parts infoCell
  refine callsIn_of_wp_marks Tryd.func66 rfl trivial ?_ rfl
  simp only [Tryd.ntmps66, List.size_toArray, List.length_cons, List.length_nil, Nat.reduceAdd, Nat.reduceSub, Array.replicate_succ, Array.replicate_zero, List.push_toArray, List.append_toArray, List.nil_append, List.cons_append]
  gi_wp2
  have bO := Boxed.new w 51 (.slice none 0 0)
  have hB0 : Below w.heap.size w (w.alloc (.cells #[.slice none 0 0] 51)) := (Below.refl _ w).alloc (Nat.le_refl _) _
  have hm1 : (w.alloc (.cells #[.slice none 0 0] 51)).cell? ⟨Bm, 0, none⟩ = some (.map (some b)) := (hB0.cell (p := ⟨Bm, 0, none⟩) hBm).trans hm0
  have hown1 : (w.alloc (.cells #[.slice none 0 0] 51)).ownsMap Tryd.prog 23 R b nn D0 := by
    have hbl := hown0.lt
    obtain ⟨es, clock, hb, Ft, hs, hD⟩ := hown0
    exact ⟨es, clock, (hB0.block b hbl).trans hb, Ft, hs, hD⟩
  refine wpIn_rangeFunc_ownG rfl (by omega) (gf := 69) (lb := #[.pointer (some ⟨Bm, 0, none⟩)]) rfl trivial (enters_of Tryd.func69 (by kernel_rfl) rfl)
    (keysIterF (5 - 1) (by omega) Bm b nn D0 R _ (by simp; omega) hm1 hown1) walksK_t walksK_b (Below.refl _ _) (fun _ => rfl)
    (fun pre W => (∃ v, Boxed W w.heap.size 51 v ∧ W.ownsRow w.heap.size 23 1 v pre.length (pre.map (Value.int .u16)) ∧ (v = .slice none 0 0 ↔ pre = [])) ∧ Below w.heap.size w W)
    (fun _ _ _ => False)
    (OwnFrom.and (Own.from (holdsRow_own w.heap.size w.heap.size 51 23 1 (fun pre : List Int => pre.length) (fun pre => pre.map (Value.int .u16)) (fun pre v => v = .slice none 0 0 ↔ pre = [])) _) (ownFrom_below (Nat.le_refl _) (by simp)))
    (fun _ _ _ _ _ hs _ _ => hs)
    ⟨⟨_, bO, World.ownsRow_nil _ _ _ _, by simp⟩, hB0⟩
    (fun x => { tmps := #[.slice none 0 0, .func (.func 69) #[] #[.pointer (some ⟨Bm, 0, none⟩)], .pointer (some ⟨w.heap.size, 0, none⟩), undef, .slice none 0 0, .int .u16 x, .func (.func 69) #[] #[.pointer (some ⟨Bm, 0, none⟩)], .int .u16 x, undef, undef, undef, undef, undef], defers := [] }) ?assign ?body ?done ?stop
  case assign =>
    intro l x W K hK
    gi_wp2
    exact hK
  case body =>
    rintro l pre x W ⟨⟨v, hv, hrow, hnil⟩, hB⟩ hlt
    have hc := hv.cell
    gi_wp2_with (gi_at_builtin; refine wpListIn_append_own _ rfl _ _ 51 rfl w.heap.size 23 i0 (.int .u16 0) 1 2 Tryd.underlying51 hi hz0 hz1 hz2 rfl (by decide) _ _ _ rfl (hrow.alloc _) ⟨W.heap.size, 0, none⟩ 1 1 [.int .u16 x] rfl rfl (cell_one_new _ _ _) (by simp [Value.oneCell']) (by simp only [maxLen]; omega) (by omega) (by have := hB.size; simp; omega) ?_; intro v' w1 hown' hgrow _; obtain ⟨g', cap', rfl⟩ := ownsRow_succ hown'; obtain ⟨hv1, hv2, hr2, hk2, hb2⟩ := hv.appended (by decide) hrow hB.size (Nat.le_refl _) hown' hgrow; have hc1 := hv1.cell; have hf1 := hv1.frozen)
    exact ⟨hk2.from _, hk2.walks, ⟨_, hv2, by simpa using hr2, by simp⟩, hB.trans hb2⟩
  case done =>
    rintro D ys W hD hS ⟨⟨v, hv, hrow, hnil⟩, hB⟩ hK
    have hc := hv.cell
    gi_wp2
    refine ⟨by simp, .inl ⟨_, _, rfl, run_takeDeferred hK, ?_⟩⟩
    exact ⟨_, results_tmp rfl _ _ _, v, ys, rfl, hS, ownsRow_putObj hrow _ hK rfl, hnil, hB.trans (belowK_b (w := w) (Nat.le_refl _) W D _ _ (by simp at hD; omega) hK rfl rfl)⟩
  case stop =>
    rintro D c pre W _ _ h _
    exact h.elim
end Go.Proofs.YtabeljpnmmfpgaaDoor

namespace Go.Proofs.YtabeljpnmmfpgaaDoor
open Go.RowKit Go.Maps Go.Sort Go.Shelf Go.MapKept Go.Proofs
set_option linter.unusedVariables false
set_option linter.unusedSimpArgs false

/-! ### rows of addresses -/
/-- A row of addresses of the call's own. -/
def RowU (w : World) (base : Nat) (v : Value) (ss : List Int) : Prop := w.ownsRow base 23 1 v ss.length (ss.map (Value.int .u16))
theorem RowU.nil (w : World) (base : Nat) : RowU w base (.slice none 0 0) [] := World.ownsRow_nil _ _ _ _
theorem RowU.move {w W : World} {base : Nat} {v : Value} {ss : List Int} (h : RowU w base v ss) (hm : ∀ k, v.ownBlock = some k → W.heap[k]? = w.heap[k]?) : RowU W base v ss := by
  obtain ⟨h1, h2⟩ := h
  refine ⟨h1, ?_⟩
  rcases h2 with h2 | ⟨g, cap, cur, rfl, hg, hh, r⟩
  · exact .inl h2
  · exact .inr ⟨g, cap, cur, rfl, hg, (hm g (by simp [Value.ownBlock])).trans hh, r⟩
theorem RowU.lt {w : World} {base : Nat} {v : Value} {ss : List Int} (h : RowU w base v ss) (k : Nat) (hk : v.ownBlock = some k) : k < w.heap.size ∧ base ≤ k := by
  rcases h.2 with ⟨rfl, _⟩ | ⟨g, cap, cur, rfl, hb, hh, _⟩
  · simp [Value.ownBlock] at hk
  · have : g = k := by simpa [Value.ownBlock] using hk
    subst this
    exact ⟨heap_lt hh, hb⟩
theorem RowU.below {w W : World} {base : Nat} {v : Value} {ss : List Int} (h : RowU w base v ss) (hb : Below w.heap.size w W) : RowU W base v ss := h.move (fun k hk => hb.block k (h.lt k hk).1)
theorem RowU.lower {w : World} {base base' : Nat} {v : Value} {ss : List Int} (h : RowU w base v ss) (hb : base' ≤ base) : RowU w base' v ss := by
  obtain ⟨h1, h2⟩ := h
  refine ⟨h1, ?_⟩
  rcases h2 with h2 | ⟨g, cap, cur, rfl, hg, r⟩
  · exact .inl h2
  · exact .inr ⟨g, cap, cur, rfl, Nat.le_trans hb hg, r⟩
theorem RowU.slice {w : World} {base : Nat} {v : Value} {ss : List Int} (h : RowU w base v ss) : ∃ A c, v = .slice A ss.length c := by
  rcases h.2 with ⟨rfl, hn⟩ | ⟨g, cap, cur, rfl, _⟩
  · exact ⟨none, 0, by rw [hn]⟩
  · exact ⟨_, cap, rfl⟩

theorem RowU.rw_ {w : World} {base : Nat} {v : Value} {ss : List Int} (h : RowU w base v ss) : (v = .slice none 0 0 ∧ ss = []) ∨ ∃ g c, v = .slice (some ⟨g, 0, none⟩) ss.length c ∧ base ≤ g ∧ Rw w w g ss.length (fun j => ss.getD j 0) := by
  rcases h.2 with ⟨rfl, h0⟩ | ⟨g, cap, cur, rfl, hg, hh, _, _, _, hc⟩
  · exact .inl ⟨rfl, List.eq_nil_of_length_eq_zero h0⟩
  · refine .inr ⟨g, cap, rfl, hg, Upd.refl _ _, (fun c0 c1 e0 e1 => by rw [e0] at e1; cases e1; rfl), cur, hh, fun j hj => ?_⟩
    rw [← Array.getElem?_toList]
    have h1 : (ss.map (Value.int .u16))[j]? = some (.int .u16 (ss.getD j 0)) := by
      rw [List.getElem?_map, List.getD_eq_getElem?_getD, List.getElem?_eq_getElem hj]; rfl
    rw [← hc, List.getElem?_take] at h1
    split at h1
    · exact h1
    · cases h1

theorem RowU.of_rw {w W : World} {base g n c : Nat} {ss : List Int} {d : Nat → Int} (h : RowU w base (.slice (some ⟨g, 0, none⟩) n c) ss) (hn : ss.length = n) (k : Rw w W g n d) : RowU W base (.slice (some ⟨g, 0, none⟩) n c) ((List.range n).map d) := by
  subst hn
  obtain ⟨cs, k1, k2⟩ := k.row
  rcases h.2 with ⟨h0, _⟩ | ⟨g', cap, cur, h0, hg, hh, h3, h4, h5, hc⟩
  · cases h0
  · cases h0
    refine ⟨by simp, .inr ⟨_, _, cs, by simp, hg, k1, by simpa using h3, h4, ?_, ?_⟩⟩
    · rw [k.sz cur cs hh k1]; exact h5
    · apply List.ext_getElem?
      intro j
      rw [List.getElem?_take]
      simp only [List.length_map, List.length_range, Nat.mul_one]
      by_cases hj : j < ss.length
      · rw [if_pos hj, Array.getElem?_toList, k2 j hj]
        simp [List.getElem?_range, hj]
      · rw [if_neg hj]
        simp [List.getElem?_eq_none, Nat.le_of_not_lt hj]

/-! ### maps keyed by addresses -/
structure MapAt (w : World) (b : Nat) (f : Int → Option Value) : Prop where
  ex : ∃ es clk, w.heap[b]? = some (.map es clk) ∧ IMap .u16 es clk f
  dom : ∀ n v, f n = some v → 0 ≤ n ∧ n < 65536
theorem MapAt.lt {w : World} {b : Nat} {f : Int → Option Value} (h : MapAt w b f) : b < w.heap.size := by
  obtain ⟨es, clk, hb, _⟩ := h.ex
  exact heap_lt hb
theorem MapAt.move {w W : World} {b : Nat} {f : Int → Option Value} (h : MapAt w b f) (hm : W.heap[b]? = w.heap[b]?) : MapAt W b f := by
  obtain ⟨es, clk, hb, hi⟩ := h.ex
  exact ⟨⟨es, clk, hm.trans hb, hi⟩, h.dom⟩
theorem MapAt.upd {w W : World} {b : Nat} {f : Int → Option Value} {S : Nat → Prop} (h : MapAt w b f) (hu : Upd w W S) (hs : ¬ S b) : MapAt W b f := h.move (hu.block b h.lt hs)
theorem MapAt.below {w W : World} {b : Nat} {f : Int → Option Value} (h : MapAt w b f) (hb : Below w.heap.size w W) : MapAt W b f := h.move (hb.block b h.lt)
theorem MapAt.drewN {w : World} {b : Nat} {f : Int → Option Value} (h : MapAt w b f) (n : Nat) : MapAt (w.drewN n) b f := h.move rfl
theorem MapAt.ext {w : World} {b : Nat} {f f' : Int → Option Value} (h : MapAt w b f) (e : ∀ n, f' n = f n) : MapAt w b f' := by
  obtain rfl : f' = f := funext e
  exact h

/-- A set of addresses, as a list that rises. -/
def setFn (S : List Int) : Int → Option Value := fun n => if n ∈ S then some (.bool true) else none
theorem setFn_some {S : List Int} {n : Int} : (setFn S n).isSome = true ↔ n ∈ S := by
  unfold setFn; split <;> simp [*]
def SetAt (w : World) (b : Nat) (S : List Int) : Prop := MapAt w b (setFn S)
theorem SetAt.dom {w : World} {b : Nat} {S : List Int} (h : SetAt w b S) : ∀ n ∈ S, 0 ≤ n ∧ n < 65536 := fun n hn => MapAt.dom h n (.bool true) (by simp [setFn, hn])
theorem SetAt.same {w : World} {b : Nat} {S T : List Int} (h : SetAt w b S) (e : ∀ n, n ∈ T ↔ n ∈ S) : SetAt w b T := MapAt.ext h (fun n => by simp [setFn, e n])

theorem nodup_small : ∀ (n : Nat) (l : List Nat), l.Nodup → (∀ x ∈ l, x < n) → l.length ≤ n
  | 0, l, _, h => by
    cases l with
    | nil => simp
    | cons a t => exact absurd (h a (by simp)) (by omega)
  | n + 1, l, hn, h => by
    have h1 := nodup_small n (l.erase n) (hn.erase n) (fun x hx => by
      have h2 := (hn.mem_erase_iff).1 hx
      have h3 := h x h2.2
      have h4 : x ≠ n := h2.1
      omega)
    rw [List.length_erase] at h1
    split at h1 <;> omega

theorem imap_small {q : IntKind} {es : Array MapEntry} {clk : Nat} {f : Int → Option Value} (h : IMap q es clk f) {m : Nat} (hr : ∀ n v, f n = some v → 0 ≤ n ∧ n < m) : es.size ≤ m := by
  have key : ∀ x ∈ es.toList, ∃ n : Nat, x.key = .int q n ∧ n < m := fun x hx => by
    obtain ⟨n, hn⟩ := h.keys x hx
    have := hr n x.val ((h.rep n x.val).2 ⟨x, hx, hn, rfl⟩)
    exact ⟨n.toNat, by rw [hn]; congr 1; omega, by omega⟩
  have hnd := h.st.2.2
  have hl := nodup_small m (es.toList.map fun x => match x.key with | .int _ n => n.toNat | _ => 0) (by
    refine List.pairwise_map.2 ((List.pairwise_map.1 hnd).imp_of_mem fun {a b} ha hb hne e => hne ?_)
    obtain ⟨n, hn, _⟩ := key a ha
    obtain ⟨k, hk, _⟩ := key b hb
    rw [hn, hk] at e ⊢
    dsimp only at e
    congr 1; omega) (by
    intro x hx
    obtain ⟨a, ha, rfl⟩ := List.mem_map.1 hx
    obtain ⟨n, hn, hm⟩ := key a ha
    rw [hn]; dsimp only; omega)
  simpa using hl

/-- What the kit's iterator asks of a map, out of IMap. -/
theorem imap_owns {es : Array MapEntry} {clk : Nat} {f : Int → Option Value} {w : World} {b : Nat} (h : IMap .u16 es clk f) (hb : w.heap[b]? = some (.map es clk)) (hr : ∀ n v, f n = some v → 0 ≤ n ∧ n < 65536) {k : TypeId} (hk : Tryd.prog.underlying k = some (.int .u16)) :
    ∃ D0 : DataW Unit, w.ownsMap Tryd.prog k (fun _ => some (.lit (.bool true), [])) b 65536 D0 ∧ Maps.size D0 ≤ 65536 ∧ ∀ x, has D0 (.int .u16 x) = true ↔ (f x).isSome = true := by
  have hsz : es.size ≤ 65536 := imap_small (m := 65536) h (fun n v hv => by have := hr n v hv; exact ⟨this.1, by simpa using this.2⟩)
  have key : ∀ x ∈ es.toList, ∃ n : Int, x.key = .int .u16 n ∧ (f n).isSome = true ∧ WideElems.rg (H := Unit) Tryd.prog k (fun _ => some (.lit (.bool true), [])) x = (.int .u16 n, .lit (.bool true)) ∧ WideElems.rd (H := Unit) Tryd.prog k (fun _ => some (.lit (.bool true), [])) x = some (.int .u16 n, .lit (.bool true)) := fun x hx => by
    obtain ⟨n, hn⟩ := h.keys x hx
    have hf := (h.rep n x.val).2 ⟨x, hx, hn, rfl⟩
    have hb := hr n x.val hf
    have hkey : keyOf Tryd.prog k x.key = some (.int .u16 n) := by
      rw [hn]; simp [keyOf, hk, mapKey, Lit.wf]; show (0:Int) ≤ n ∧ n ≤ 65535; omega
    have hrd : WideElems.rd (H := Unit) Tryd.prog k (fun _ => some (.lit (.bool true), [])) x = some (.int .u16 n, .lit (.bool true)) := by simp [WideElems.rd, hkey]
    exact ⟨n, hn, by rw [hf]; rfl, by simp [WideElems.rg, hrd], hrd⟩
  refine ⟨_, ⟨es, clk, hb, ⟨by simp only [maxLen]; omega, h.st, fun x hx => ?_⟩, hsz, rfl⟩, ?_, ?_⟩
  · obtain ⟨n, _, _, _, e⟩ := key x hx
    exact ⟨_, e⟩
  · rw [size_eq, length_sorted]; simpa using hsz
  · intro x
    rw [has_eq, List.any_eq_true]
    have hp := WideShapes.sorted_perm (es.toList.map (WideElems.rg (H := Unit) Tryd.prog k (fun _ => some (.lit (.bool true), []))))
    constructor
    · rintro ⟨p, hp1, hp2⟩
      obtain ⟨a, ha, rfl⟩ := List.mem_map.1 (hp.mem_iff.1 hp1)
      obtain ⟨n, hn, hf, e1, _⟩ := key a ha
      rw [e1] at hp2
      have e : n = x := by simpa [Lit.sameKey] using hp2
      rw [← e]; exact hf
    · intro hx
      obtain ⟨v, hv⟩ := Option.isSome_iff_exists.1 hx
      obtain ⟨a, ha, hak, _⟩ := (h.rep x v).1 hv
      obtain ⟨n, hn, hf, e1, _⟩ := key a ha
      rw [hak] at hn
      cases hn
      exact ⟨_, hp.mem_iff.2 (List.mem_map.2 ⟨a, ha, rfl⟩), by rw [e1]; simp [Lit.sameKey]⟩

theorem MapAt.owns {f : Int → Option Value} {w : World} {b : Nat} (h : MapAt w b f) : ∃ D0 : DataW Unit, w.ownsMap Tryd.prog 23 (fun _ => some (.lit (.bool true), [])) b 65536 D0 ∧ Maps.size D0 ≤ 65536 ∧ ∀ x, has D0 (.int .u16 x) = true ↔ (f x).isSome = true := by
  obtain ⟨es, clk, hb, hi⟩ := h.ex
  exact imap_owns hi hb h.dom Tryd.underlying23

/-- The keys of a map, each once, in any order. -/
def KeysOf (f : Int → Option Value) (ss : List Int) : Prop := ss.Nodup ∧ ∀ x, x ∈ ss ↔ (f x).isSome = true

set_option maxRecDepth 100000 in
set_option maxHeartbeats 4000000 in
theorem keysS_any (mb : Option Nat) (w : World) : Calls Tryd.prog 50 #[.map mb] w fun e w' =>
    e = .returned (.func (.func 67) #[] #[.pointer (some ⟨w.heap.size, 0, none⟩)]) ∧ w' = w.alloc (.cells #[.map mb] 80) := by
  go_enter Tryd.func50, Tryd.ntmps50
  go_wp2
  go_ret
  exact ⟨rfl, rfl⟩

set_option maxRecDepth 100000 in
set_option maxHeartbeats 4000000 in
theorem keysF_any (mb : Option Nat) (w : World) : Calls Tryd.prog 55 #[.map mb] w fun e w' =>
    e = .returned (.func (.func 69) #[] #[.pointer (some ⟨w.heap.size, 0, none⟩)]) ∧ w' = w.alloc (.cells #[.map mb] 109) := by
  go_enter Tryd.func55, Tryd.ntmps55
  go_wp2
  go_ret
  exact ⟨rfl, rfl⟩

set_option maxRecDepth 100000 in
set_option maxHeartbeats 4000000 in
theorem collectS_any {f : Int → Option Value} {w : World} {b c : Nat} (h : MapAt w b f) (hc : w.cell? ⟨c, 0, none⟩ = some (.map (some b))) (hlt : c < w.heap.size) :
    Calls Tryd.prog 49 #[.func (.func 67) #[] #[.pointer (some ⟨c, 0, none⟩)]] w fun e W => ∃ v, e = .returned v ∧ Hid (∃ ss, KeysOf f ss ∧ RowU W w.heap.size v ss ∧ Below w.heap.size w W) := by
  obtain ⟨D0, hown, hsz, hss⟩ := h.owns
  have ap := Lib.hid (appendKeysS c b 65536 D0 _ w hlt hc hown (by omega))
  have hs := Lib.hid hss
  clear hown hsz hss hc h
  go_enter Tryd.func49, Tryd.ntmps49
  go_wp2_with (go_at_call 66; refine ap.out.mono ?_; rintro e W ⟨v, ss, rfl, h1, h2, h3, h4⟩; have FIN : Hid (∃ ss, KeysOf f ss ∧ RowU W w.heap.size v ss ∧ Below w.heap.size w W) := ⟨ss, ⟨h1.1, fun x => (h1.2 x).trans (hs.out x)⟩, h2, h4⟩; clear h1 h2 h3 h4)
  go_ret
  exact ⟨_, rfl, FIN⟩

set_option maxRecDepth 100000 in
set_option maxHeartbeats 4000000 in
theorem collectF_any {f : Int → Option Value} {w : World} {b c : Nat} (h : MapAt w b f) (hc : w.cell? ⟨c, 0, none⟩ = some (.map (some b))) (hlt : c < w.heap.size) :
    Calls Tryd.prog 49 #[.func (.func 69) #[] #[.pointer (some ⟨c, 0, none⟩)]] w fun e W => ∃ v, e = .returned v ∧ Hid (∃ ss, KeysOf f ss ∧ RowU W w.heap.size v ss ∧ Below w.heap.size w W) := by
  obtain ⟨D0, hown, hsz, hss⟩ := h.owns
  have ap := Lib.hid (appendKeysF c b 65536 D0 _ w hlt hc hown (by omega))
  have hs := Lib.hid hss
  clear hown hsz hss hc h
  go_enter Tryd.func49, Tryd.ntmps49
  go_wp2_with (go_at_call 66; refine ap.out.mono ?_; rintro e W ⟨v, ss, rfl, h1, h2, h3, h4⟩; have FIN : Hid (∃ ss, KeysOf f ss ∧ RowU W w.heap.size v ss ∧ Below w.heap.size w W) := ⟨ss, ⟨h1.1, fun x => (h1.2 x).trans (hs.out x)⟩, h2, h4⟩; clear h1 h2 h3 h4)
  go_ret
  exact ⟨_, rfl, FIN⟩
end Go.Proofs.YtabeljpnmmfpgaaDoor

namespace Go.Proofs.YtabeljpnmmfpgaaDoor
open Go.RowKit Go.Maps Go.Sort Go.Shelf Go.MapKept Go.Proofs
set_option linter.unusedVariables false
set_option linter.unusedSimpArgs false

set_option maxRecDepth 100000 in
set_option maxHeartbeats 4000000 in
theorem min_any (w : World) (base : Nat) (v : Value) (ss : List Int) (h : RowU w base v ss) (hn : ss ≠ []) (hl : ss.length ≤ 1000000) :
    Calls Tryd.prog 48 #[v] w fun e w' => ∃ m, e = .returned (.int .u16 m) ∧ (m ∈ ss ∧ ∀ x ∈ ss, m ≤ x) ∧ w' = w := by
  rcases h.rw_ with ⟨_, rfl⟩ | ⟨g, c, rfl, hg, hR⟩
  · exact absurd rfl hn
  have hlen : 0 < ss.length := List.length_pos_iff.2 hn
  have hc : ∀ j, j < ss.length → w.cell? ⟨g, j, none⟩ = some (.int .u16 (ss.getD j 0)) := fun j hj => hR.cell hj
  have hmem : ∀ j, j < ss.length → ss.getD j 0 ∈ ss := fun j hj => by rw [List.getD_eq_getElem?_getD, List.getElem?_eq_getElem hj]; exact List.getElem_mem hj
  have HM := Lib.hid hmem
  have HC := Lib.hid hc
  obtain ⟨n, hnn⟩ : ∃ n, n = ss.length := ⟨_, rfl⟩
  have hfin : Hid (∀ m, m ∈ ss → (∀ j, j < n → m ≤ ss.getD j 0) → (m ∈ ss ∧ ∀ x ∈ ss, m ≤ x)) := fun m h1 h2 => ⟨h1, fun x hx => by
    obtain ⟨j, hj, rfl⟩ := List.mem_iff_getElem.1 hx
    have := h2 j (hnn ▸ hj)
    rwa [List.getD_eq_getElem?_getD, List.getElem?_eq_getElem hj] at this⟩
  rw [← hnn] at hlen hl ⊢
  replace HC : Hid (∀ j, j < n → w.cell? ⟨g, j, none⟩ = some (.int .u16 (ss.getD j 0))) := fun j hj => HC.out j (hnn ▸ hj)
  replace HM : Hid (∀ j, j < n → ss.getD j 0 ∈ ss) := fun j hj => HM.out j (hnn ▸ hj)
  clear h hR hnn hn hmem hc
  have c0 := HC.out 0 hlen
  have first0 : ∀ j, j < 1 → ss.getD 0 0 ≤ ss.getD j 0 := fun j hj => by
    obtain rfl : j = 0 := by omega
    exact Int.le_refl _
  have d1 : decide ((n : Int) < 1) = false := by simp; omega
  have b0 : (0 : Int) < (n : Int) := by omega
  go_enter Tryd.func48, Tryd.ntmps48
  go_wp2
  go_loopw [3, 4] (fun pm pi wr => ∃ (i : Nat) (m : Int), pm = .int .u16 m ∧ pi = .int .i64 (i : Int) ∧ 1 ≤ i ∧ i ≤ n ∧ Hid (m ∈ ss ∧ ∀ j, j < i → m ≤ ss.getD j 0) ∧ wr = w) (fun _ pi _ => n - (intOf pi).toNat)
  case atStart => exact ⟨1, _, rfl, rfl, Nat.le_refl _, hlen, ⟨HM.out 0 hlen, first0⟩, rfl⟩
  case round =>
    obtain ⟨i, m, rfl, rfl, h1, h2, hm, rfl⟩ := hrel
    by_cases hlt : i < n
    · have ci := HC.out i hlt
      have di : decide ((i : Int) < (n : Int)) = true := by simp; omega
      have bi0 : (0 : Int) ≤ (i : Int) := by omega
      have bi : (i : Int) < (n : Int) := by omega
      obtain ⟨x, hx⟩ : ∃ x, x = ss.getD i 0 := ⟨_, rfl⟩
      rw [← hx] at ci
      have nxt : Hid ((if x < m then x else m) ∈ ss ∧ ∀ j, j < i + 1 → (if x < m then x else m) ≤ ss.getD j 0) := by
        constructor
        · split
          · rw [hx]; exact HM.out i hlt
          · exact hm.out.1
        · intro j hj
          by_cases e : j = i
          · rw [e, ← hx]; split <;> omega
          · have := hm.out.2 j (by omega)
            split <;> omega
      clear hx
      go_wp2
      go_roundw
      case rel => exact ⟨i + 1, _, rfl, by go_num, by omega, by omega, nxt, by first | rfl | trivial⟩
      case measure => first | (simp [intOf]; done) | (simp [intOf]; omega)
    · obtain rfl : i = n := by omega
      have di : decide ((i : Int) < (i : Int)) = false := by simp
      go_wp2
      first | go_end0 | go_ret | refine bodyPost_ret (results_none rfl _ _ _) rfl ?_
      exact ⟨m, rfl, hfin.out m hm.out.1 hm.out.2, rfl⟩

/-! ### writing a map, taking out of it -/
theorem upd_map {w : World} {r : Nat} (es : Array MapEntry) (clk : Nat) : Upd w { w with heap := w.heap.setIfInBounds r (.map es clk) } (fun i => i = r) :=
  ⟨rfl, rfl, rfl, by simp, fun i hi hne => by
    show (w.heap.setIfInBounds r _)[i]? = _
    rw [Array.getElem?_setIfInBounds, if_neg (fun e => hne e.symm)]⟩

section
variable {P : Program} {w : World} {ops : Array Oper} {rest : List Oper} {o : Oper} {a : Act} {Q : Exit → Act → World → Prop}
theorem wpList_map_put (hg : o.guard = none) (m x v : Operand) (t : TypeId) (hop : o.op = Op.mapUpdate t m x v) (k e : TypeId) (ht : P.underlying t = some (.map k e)) (hk : P.underlying k = some (.int .u16))
    (r : Nat) (f : Int → Option Value) (hm : a.eval m = .map (some r)) (H : MapAt w r f) (n : Int) (hn : 0 ≤ n ∧ n < 65536) (val : Value) (hx : a.eval x = .int .u16 n) (hv : a.eval v = val)
    (hK : ∀ w', MapAt w' r (fun j => if j = n then some val else f j) → Upd w w' (fun i => i = r) → wpList P ops Q rest (a.put o.dst undef) w') :
    wpList P ops Q (o :: rest) a w := by
  refine wpList_plain hg fun K' hK' => ?_
  obtain ⟨es, clk, hb, hi⟩ := H.ex
  obtain ⟨es', clk', hrun, H', h1, h2⟩ := hi.put hb ht hk n val
  have hlt := heap_lt hb
  unfold Oper.wp
  simp [execOp, hop, hm, hx, hv, hrun, Result.andThen]
  exact hK' _ _ (hK _ ⟨⟨es', clk', by simp [hlt], H'⟩, fun j u hj => by
    split at hj
    · rename_i e; subst e; exact hn
    · exact H.dom j u hj⟩ (upd_map _ _))
theorem wpList_map_ins (hg : o.guard = none) (m x v : Operand) (t : TypeId) (hop : o.op = Op.insert t m x v) (k e : TypeId) (ht : P.underlying t = some (.map k e)) (hk : P.underlying k = some (.int .u16))
    (r : Nat) (f : Int → Option Value) (hm : a.eval m = .map (some r)) (H : MapAt w r f) (n : Int) (hn : 0 ≤ n ∧ n < 65536) (val : Value) (hx : a.eval x = .int .u16 n) (hv : a.eval v = val)
    (hK : ∀ w', MapAt w' r (fun j => if j = n then some val else f j) → Upd w w' (fun i => i = r) → wpList P ops Q rest (a.put o.dst undef) w') :
    wpList P ops Q (o :: rest) a w := by
  refine wpList_plain hg fun K' hK' => ?_
  obtain ⟨es, clk, hb, hi⟩ := H.ex
  obtain ⟨es', clk', hrun, H', h1, h2⟩ := hi.put hb ht hk n val
  have hlt := heap_lt hb
  unfold Oper.wp
  simp [execOp, hop, hm, hx, hv, hrun, Result.andThen]
  exact hK' _ _ (hK _ ⟨⟨es', clk', by simp [hlt], H'⟩, fun j u hj => by
    split at hj
    · rename_i e; subst e; exact hn
    · exact H.dom j u hj⟩ (upd_map _ _))
theorem wpList_map_del (hg : o.guard = none) (m x : Operand) (t k : TypeId) (hop : o.op = Op.call { callee := Callee.builtin Builtin.delete, args := #[m, x], argTypes := #[t, k] }) (e : TypeId) (ht : P.underlying t = some (.map k e)) (hk : P.underlying k = some (.int .u16))
    (r : Nat) (f : Int → Option Value) (hm : a.eval m = .map (some r)) (H : MapAt w r f) (n : Int) (hx : a.eval x = .int .u16 n)
    (hK : ∀ w', MapAt w' r (fun j => if j = n then none else f j) → Upd w w' (fun i => i = r) → wpList P ops Q rest (a.put o.dst (.tuple #[])) w') :
    wpList P ops Q (o :: rest) a w := by
  refine wpList_plain hg fun K' hK' => ?_
  obtain ⟨es, clk, hb, hi⟩ := H.ex
  obtain ⟨es', hrun, H', h1⟩ := hi.del (ty := o.type) hb ht hk n
  have hlt := heap_lt hb
  unfold Oper.wp
  simp [execOp, hop, resolve, invoke, builtin, hm, hx, hrun, Result.andThen]
  exact hK' _ _ (hK _ ⟨⟨es', clk, by simp [hlt], H'⟩, fun j u hj => by
    split at hj
    · cases hj
    · exact H.dom j u hj⟩ (upd_map _ _))
end

/-- How many keys a map has: none just where it has no key. -/
theorem MapAt.size {w : World} {r : Nat} {f : Int → Option Value} (h : MapAt w r f) : ∃ es clk, w.heap[r]? = some (.map es clk) ∧ es.size ≤ 65536 ∧ (es.size = 0 ↔ ∀ n, f n = none) := by
  obtain ⟨es, clk, hb, hi⟩ := h.ex
  refine ⟨es, clk, hb, imap_small (m := 65536) hi (fun n v hv => by have := h.dom n v hv; exact ⟨this.1, by simpa using this.2⟩), ?_⟩
  constructor
  · intro h0 n
    cases hf : f n with
    | none => rfl
    | some v =>
      obtain ⟨x, hx, _⟩ := (hi.rep n v).1 hf
      have : es.toList = [] := by simpa using h0
      rw [this] at hx; cases hx
  · intro h0
    rcases Nat.eq_zero_or_pos es.size with e | e
    · exact e
    · have hx : es[0] ∈ es.toList := by simp
      obtain ⟨n, hn⟩ := hi.keys _ hx
      have := (hi.rep n es[0].val).2 ⟨_, hx, hn, rfl⟩
      rw [h0 n] at this; cases this

theorem MapAt.look_some {P : Program} {w : World} {r : Nat} {f : Int → Option Value} (h : MapAt w r f) {t k e : TypeId} (ht : P.underlying t = some (.map k e)) (hk : P.underlying k = some (.int .u16)) {n : Int} {v : Value} (hf : f n = some v) (c : Bool) :
    (Instr.lookup t (.map (some r)) (.int .u16 n) c).run P w = .ok (if c then .tuple #[v, .bool true] else v) w := by
  obtain ⟨es, clk, hb, hi⟩ := h.ex
  exact hi.look_some hb ht hk hf c
theorem MapAt.look_none {P : Program} {w : World} {r : Nat} {f : Int → Option Value} (h : MapAt w r f) {t k e : TypeId} (ht : P.underlying t = some (.map k e)) (hk : P.underlying k = some (.int .u16)) {n : Int} {z : Value} (hz : (zeroValue e).run P w = .ok z w) (hf : f n = none) (c : Bool) :
    (Instr.lookup t (.map (some r)) (.int .u16 n) c).run P w = .ok (if c then .tuple #[z, .bool false] else z) w := by
  obtain ⟨es, clk, hb, hi⟩ := h.ex
  exact hi.look_none hb ht hk hz hf c

set_option maxRecDepth 100000 in
set_option maxHeartbeats 4000000 in
theorem least_any (w : World) (b : Nat) (x : Int) (S : List Int) (h : SetAt w b (x :: S)) (hx : ∀ y ∈ S, x < y) :
    Calls Tryd.prog 32 #[.map (some b)] w fun e w' => e = .returned (.int .u16 x) ∧ SetAt w' b S ∧ Upd w w' (fun i => i = b) := by
  have H := Lib.hid h
  have hlt : b < w.heap.size := MapAt.lt h
  have HD : Hid (∀ ss, KeysOf (setFn (x :: S)) ss → ss ≠ [] ∧ ss.length ≤ 1000000) := fun ss hs => by
    constructor
    · rintro rfl
      have := (hs.2 x).2 (setFn_some.2 List.mem_cons_self)
      cases this
    · have h2 := nodup_small 65536 (ss.map Int.toNat) (by
        refine List.pairwise_map.2 (hs.1.imp_of_mem fun {a c} ha hc hne e => hne ?_)
        have := h.dom a (setFn_some.1 ((hs.2 a).1 ha)); have := h.dom c (setFn_some.1 ((hs.2 c).1 hc)); omega) (by
        intro y hy
        obtain ⟨a, ha, rfl⟩ := List.mem_map.1 hy
        have := h.dom a (setFn_some.1 ((hs.2 a).1 ha)); omega)
      simp at h2; omega
  have HM : Hid (∀ ss m, KeysOf (setFn (x :: S)) ss → (m ∈ ss ∧ ∀ y ∈ ss, m ≤ y) → m = x) := fun ss m hs hm => by
    have h1 : m ∈ x :: S := setFn_some.1 ((hs.2 m).1 hm.1)
    have h2 := hm.2 x ((hs.2 x).2 (setFn_some.2 List.mem_cons_self))
    rcases List.mem_cons.1 h1 with h1 | h1
    · exact h1
    · have := hx m h1; omega
  have co : Hid (∀ W, W = w.alloc (.cells #[.map (some b)] 80) → Calls Tryd.prog 49 #[.func (.func 67) #[] #[.pointer (some ⟨w.heap.size, 0, none⟩)]] W fun e W' => ∃ v, e = .returned v ∧ Hid (∃ ss, KeysOf (setFn (x :: S)) ss ∧ RowU W' w.heap.size v ss ∧ Below w.heap.size w W')) := by
    rintro W rfl
    have hB : Below w.heap.size w (w.alloc (.cells #[.map (some b)] 80)) := (Below.refl _ _).alloc (Nat.le_refl _) _
    refine (collectS_any (MapAt.below H.out hB) (by rw [cell_of (heap_alloc_at w _)]; rfl) (by simp)).mono ?_
    rintro e W' ⟨v, rfl, ss, h1, h2, h3⟩
    have hs : w.heap.size ≤ (w.alloc (.cells #[.map (some b)] 80)).heap.size := by simp
    exact ⟨v, rfl, ss, h1, h2.lower hs, hB.trans ⟨h3.os, h3.tape, h3.output, h3.size, fun i hi => h3.block i (by omega)⟩⟩
  have HS : Hid (∀ W, MapAt W b (fun j => if j = x then none else setFn (x :: S) j) → SetAt W b S) := fun W hW => MapAt.ext hW (fun n => by
    unfold setFn
    by_cases e : n = x
    · rw [if_pos e, if_neg (fun hn => by have := hx n hn; omega)]
    · rw [if_neg e]; simp [e])
  clear h hx
  go_enter Tryd.func32, Tryd.ntmps32
  go_wp2_with (first
    | (go_at_call 50; refine (keysS_any _ _).mono ?_; rintro e W ⟨rfl, rfl⟩)
    | (go_at_call 49; refine (co.out _ rfl).mono ?_; rintro e W2 ⟨v, rfl, hk⟩)
    | (go_at_call 48; obtain ⟨ss, hk1, hk2, hk3⟩ := hk.out; refine (min_any _ _ _ _ hk2 (HD.out ss hk1).1 (HD.out ss hk1).2).mono ?_; rintro e W3 ⟨m, rfl, hm, rfl⟩; obtain rfl := HM.out ss m hk1 hm; have HB := Lib.hid hk3; clear hk1 hk2 hk3 hm hk)
    | (refine wpList_map_del rfl (.tmp 8) (.tmp 9) 80 23 rfl 4 Tryd.underlying80 Tryd.underlying23 b (setFn (_ :: S)) rfl (MapAt.below H.out HB.out) _ rfl ?_; intro w4 k1 k2; have HK := Lib.hid k1; have HU := Lib.hid k2; clear k1 k2))
  go_ret
  exact ⟨rfl, HS.out _ HK.out, (Upd.of_below HB.out _).trans HU.out (fun _ _ h => h)⟩
end Go.Proofs.YtabeljpnmmfpgaaDoor
