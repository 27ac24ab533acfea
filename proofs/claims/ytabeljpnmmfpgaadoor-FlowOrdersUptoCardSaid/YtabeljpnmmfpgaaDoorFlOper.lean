/-
  Which primitives have an operand: prim.Of, flow's operand.
-/
import Derived.Lib.Hide
import Derived.BigRegion
import Derived.BigQuiet
import Derived.Deep.QuietTactic
import Derived.Deep.RegionHeld3
import Derived.Deep.DeepCutAuto
import Derived.Deep.CutBlock
import Derived.Test.YtabeljpnmmfpgaaDoorFlPrim
namespace Go.Proofs.YtabeljpnmmfpgaaDoor
open Go.RowKit Go.MapKept
set_option linter.unusedVariables false
set_option linter.unusedSimpArgs false

theorem cells6 {w : World} {b : Nat} {v0 v1 v2 v3 v4 v5 : Value} {t : TypeId} (h : w.heap[b]? = some (.cells #[v0, v1, v2, v3, v4, v5] t (0, 0))) :
    w.cell? ⟨b, 0, none⟩ = some v0 ∧ w.cell? ⟨b, 1, none⟩ = some v1 ∧ w.cell? ⟨b, 2, none⟩ = some v2 ∧ w.cell? ⟨b, 3, none⟩ = some v3 ∧ w.cell? ⟨b, 4, none⟩ = some v4 ∧ w.cell? ⟨b, 5, none⟩ = some v5 ∧
    w.frozen? ⟨b, 0, none⟩ = false ∧ w.frozen? ⟨b, 1, none⟩ = false ∧ w.frozen? ⟨b, 2, none⟩ = false ∧ w.frozen? ⟨b, 3, none⟩ = false ∧ w.frozen? ⟨b, 4, none⟩ = false ∧ w.frozen? ⟨b, 5, none⟩ = false :=
  ⟨cell_of h 0, cell_of h 1, cell_of h 2, cell_of h 3, cell_of h 4, cell_of h 5, free_of h 0, free_of h 1, free_of h 2, free_of h 3, free_of h 4, free_of h 5⟩

theorem below_set1 {B g : Nat} {a b : World} (h : Below B a b) (hp : B ≤ g) (i : Nat) (v : Value) : Below B a (b.setCell ⟨g, i, none⟩ v) :=
  h.trans ⟨rfl, rfl, rfl, by simp [World.setCell], fun j hj => Below.heap_setCell _ _ _ _ (Nat.ne_of_lt (Nat.lt_of_lt_of_le hj hp))⟩
theorem below_set {B : Nat} {a b : World} {p : Addr} (h : Below B a b) (hp : B ≤ p.block) (v : Value) : Below B a (b.setCell p v) :=
  h.trans ⟨rfl, rfl, rfl, by simp [World.setCell], fun i hi => Below.heap_setCell _ _ _ _ (by omega)⟩

set_option maxRecDepth 100000 in
set_option maxHeartbeats 4000000 in
theorem of_any (w : World) (op : Int) (h : Tab w) (h1 : 1 ≤ op) (h64 : op < 64) :
    Calls Tryd.prog 70 #[.int .i64 op] w fun e w' => (∃ s a b c, e = .returned (.tuple #[.agg #[.int .i64 op, .string s, .int .i64 a, .int .i64 b, .int .i64 c, .bool (hasOperand op)], .int .i64 0])) ∧ Below w.heap.size w w' := by
  have H := Lib.hid h
  have d1 : ¬ op < 1 := by omega
  have d2 : ¬ 64 ≤ op := by omega
  have po : Hid (∀ W, Below w.heap.size w W → Calls Tryd.prog 82 #[.int .i64 op] W fun e w' => (∃ s a b c, e = .returned (.agg #[.int .i64 op, .string s, .int .i64 a, .int .i64 b, .int .i64 c, .bool (hasOperand op)])) ∧ Below W.heap.size W w') :=
    fun W hW => primOf_any W op (H.out.below hW) h1 h64
  have hB : Below w.heap.size w (w.alloc (.cells #[.int .i64 0, .string { data := #[] }, .int .i64 0, .int .i64 0, .int .i64 0, .bool false] 128)) := (Below.refl _ _).alloc (Nat.le_refl _) _
  have HB := Lib.hid hB
  obtain ⟨z, hz⟩ : ∃ z, z = hasOperand op := ⟨_, rfl⟩
  rw [← hz] at po ⊢
  clear h hz hB
  go_enter Tryd.func70, Tryd.ntmps70
  go_wp2_with (go_at_call 82; refine (po.out _ HB.out).mono ?_; rintro e W ⟨⟨s, a, b, c, rfl⟩, hW⟩; have hb := (hW.block w.heap.size (by simp)).trans (heap_alloc_at w _); obtain ⟨g0, g1, g2, g3, g4, g5, f0, f1, f2, f3, f4, f5⟩ := cells6 hb; have HC := Lib.hid hb; clear hb; have HW := Lib.hid hW; clear hW)
  have hB2 : Below w.heap.size w W := HB.out.trans ⟨HW.out.os, HW.out.tape, HW.out.output, HW.out.size, fun i hi => HW.out.block i (by simp; omega)⟩
  have hV : ∀ V, V = World.setCell (World.setCell (World.setCell (World.setCell (World.setCell (World.setCell W ⟨w.heap.size, 0, none⟩ (.int .i64 op)) ⟨w.heap.size, 1, none⟩ (.string s)) ⟨w.heap.size, 2, none⟩ (.int .i64 a)) ⟨w.heap.size, 3, none⟩ (.int .i64 b)) ⟨w.heap.size, 4, none⟩ (.int .i64 c)) ⟨w.heap.size, 5, none⟩ (.bool z) →
      V.heap[w.heap.size]? = some (.cells #[.int .i64 op, .string s, .int .i64 a, .int .i64 b, .int .i64 c, .bool z] 128 (0, 0)) ∧ Below w.heap.size w V := by
    rintro V rfl
    refine ⟨heap_set_cell (heap_set_cell (heap_set_cell (heap_set_cell (heap_set_cell (heap_set_cell HC.out 0 _) 1 _) 2 _) 3 _) 4 _) 5 _, ?_⟩
    have le := Nat.le_refl w.heap.size
    exact below_set1 (below_set1 (below_set1 (below_set1 (below_set1 (below_set1 hB2 le _ _) le _ _) le _ _) le _ _) le _ _) le _ _
  generalize hVe : World.setCell (World.setCell _ _ _) _ _ = V
  obtain ⟨hb, hbe⟩ := hV V hVe.symm
  clear hV g0 g1 g2 g3 g4 g5 f0 f1 f2 f3 f4 f5 hVe HC
  obtain ⟨g0, g1, g2, g3, g4, g5, f0, f1, f2, f3, f4, f5⟩ := cells6 hb
  refine bodyPost_ret (v := .tuple #[.agg #[.int .i64 op, .string s, .int .i64 a, .int .i64 b, .int .i64 c, .bool z], .int .i64 0]) (by simp [results, Tryd.results70, go_sem, g0, g1, g2, g3, g4, g5]) rfl ⟨⟨s, a, b, c, rfl⟩, hbe⟩

set_option maxRecDepth 100000 in
set_option maxHeartbeats 4000000 in
theorem operand_any (w : World) (op : Int) (h : Tab w) (h1 : 1 ≤ op) (h64 : op < 64) :
    Calls Tryd.prog 56 #[.int .i64 op] w fun e w' => e = .returned (.bool (hasOperand op)) ∧ Below w.heap.size w w' := by
  have po := Lib.hid (of_any w op h h1 h64)
  obtain ⟨z, hz⟩ : ∃ z, z = hasOperand op := ⟨_, rfl⟩
  rw [← hz] at po ⊢
  clear h hz
  go_enter Tryd.func56, Tryd.ntmps56
  go_wp2_with (go_at_call 70; refine po.out.mono ?_; rintro e W ⟨⟨s, a, b, c, rfl⟩, hW⟩; have HW := Lib.hid hW; clear hW)
  go_ret
  exact ⟨rfl, HW.out.alloc HW.out.size _⟩
end Go.Proofs.YtabeljpnmmfpgaaDoor
