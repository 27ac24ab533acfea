/-
  The table of primitives, as far as flow looks: which primitives have an operand.
-/
import Derived.Lib.Hide
import Derived.BigRegion
import Derived.BigQuiet
import Derived.Deep.QuietTactic
import Derived.Deep.RegionHeld3
import Derived.Deep.DeepCutAuto
import Derived.Deep.CutBlock
import Derived.Test.YtabeljpnmmfpgaaDoorFlSort
namespace Go.Proofs.YtabeljpnmmfpgaaDoor
open Go.RowKit Go.MapKept
set_option linter.unusedVariables false
set_option linter.unusedSimpArgs false

/-- The table's four variables stand. -/
structure Tab (w : World) : Prop where
  size : 4 ≤ w.heap.size
  names : ∀ i : Nat, i < 64 → ∃ s, w.cell? ⟨0, i, none⟩ = some (.string s)
  takes : ∀ i : Nat, i < 64 → ∃ n, w.cell? ⟨1, i, none⟩ = some (.int .u8 n) ∧ 0 ≤ n ∧ n < 256
  leaves : ∀ i : Nat, i < 64 → ∃ n, w.cell? ⟨2, i, none⟩ = some (.int .u8 n) ∧ 0 ≤ n ∧ n < 256
  costs : ∀ i : Nat, i < 64 → ∃ n, w.cell? ⟨3, i, none⟩ = some (.int .u8 n) ∧ 0 ≤ n ∧ n < 256
theorem Tab.move {w W : World} (h : Tab w) (hs : w.heap.size ≤ W.heap.size) (hm : ∀ b, b < 4 → W.heap[b]? = w.heap[b]?) : Tab W := by
  have hc : ∀ b i, b < 4 → W.cell? ⟨b, i, none⟩ = w.cell? ⟨b, i, none⟩ := fun b i hb => by
    unfold World.cell?
    rw [hm b hb]
  refine ⟨Nat.le_trans h.size hs, fun i hi => ?_, fun i hi => ?_, fun i hi => ?_, fun i hi => ?_⟩
  · rw [hc 0 i (by omega)]; exact h.names i hi
  · rw [hc 1 i (by omega)]; exact h.takes i hi
  · rw [hc 2 i (by omega)]; exact h.leaves i hi
  · rw [hc 3 i (by omega)]; exact h.costs i hi
theorem Tab.below {w W : World} (h : Tab w) (hb : Below w.heap.size w W) : Tab W := h.move hb.size (fun b hb' => hb.block b (by have := h.size; omega))
theorem Tab.upd {w W : World} {S : Nat → Prop} (h : Tab w) (hu : Upd w W S) (hs : ∀ b, b < 4 → ¬ S b) : Tab W := h.move hu.size (fun b hb' => hu.block b (by have := h.size; omega) (hs b hb'))

theorem cell_alloc_old {w : World} {o : Obj} {b i : Nat} {v : Value} (h : w.cell? ⟨b, i, none⟩ = some v) : (w.alloc o).cell? ⟨b, i, none⟩ = some v :=
  (((Below.refl w.heap.size w).alloc (Nat.le_refl _) o).cell (World.block_lt_of_cell? w _ h)).trans h

/-- Which primitives have an operand. -/
def hasOperand (op : Int) : Bool := op == 3 || op == 4 || op == 5 || op == 7

theorem hasOperand_no {op : Int} (n3 : op ≠ 3) (n4 : op ≠ 4) (n5 : op ≠ 5) (n7 : op ≠ 7) : hasOperand op = false := by unfold hasOperand; simp [n3, n4, n5, n7]

set_option maxRecDepth 100000 in
set_option maxHeartbeats 4000000 in
theorem primOf_any (w : World) (op : Int) (h : Tab w) (h1 : 1 ≤ op) (h64 : op < 64) :
    Calls Tryd.prog 82 #[.int .i64 op] w fun e w' => (∃ s a b c, e = .returned (.agg #[.int .i64 op, .string s, .int .i64 a, .int .i64 b, .int .i64 c, .bool (hasOperand op)])) ∧ Below w.heap.size w w' := by
  obtain ⟨s, c0⟩ := h.names op.toNat (by omega)
  obtain ⟨a, c1, a0, a1⟩ := h.takes op.toNat (by omega)
  obtain ⟨b, c2, b0, b1⟩ := h.leaves op.toNat (by omega)
  obtain ⟨c, c3, d0, d1⟩ := h.costs op.toNat (by omega)
  have hsz := h.size
  clear h
  have h0 : (0 : Int) ≤ op := by omega
  have e0 := cell_alloc_old (o := Obj.cells #[.int .i64 0, .string { data := #[] }, .int .i64 0, .int .i64 0, .int .i64 0, .bool false] 128) c0
  have e1 := cell_alloc_old (o := Obj.cells #[.int .i64 0, .string { data := #[] }, .int .i64 0, .int .i64 0, .int .i64 0, .bool false] 128) c1
  have e2 := cell_alloc_old (o := Obj.cells #[.int .i64 0, .string { data := #[] }, .int .i64 0, .int .i64 0, .int .i64 0, .bool false] 128) c2
  have e3 := cell_alloc_old (o := Obj.cells #[.int .i64 0, .string { data := #[] }, .int .i64 0, .int .i64 0, .int .i64 0, .bool false] 128) c3
  clear c0 c1 c2 c3
  have hc : op = 3 ∨ op = 4 ∨ op = 5 ∨ op = 7 ∨ (op ≠ 3 ∧ op ≠ 4 ∧ op ≠ 5 ∧ op ≠ 7) := by omega
  rcases hc with rfl | rfl | rfl | rfl | ⟨n3, n4, n5, n7⟩
  all_goals
    try simp only [Int.reduceToNat] at e0 e1 e2 e3
    go_enter Tryd.func82, Tryd.ntmps82
    go_wp2
    go_region
    go_wp2
  · refine bodyPost_ret (v := .agg #[.int .i64 3, .string s, .int .i64 a, .int .i64 b, .int .i64 c, .bool true]) (by simp [results, Tryd.results82, go_sem]) rfl ⟨⟨s, a, b, c, rfl⟩, ?_⟩
    exact ((Below.refl _ _).alloc (Nat.le_refl _) _).drew
  · refine bodyPost_ret (v := .agg #[.int .i64 4, .string s, .int .i64 a, .int .i64 b, .int .i64 c, .bool true]) (by simp [results, Tryd.results82, go_sem]) rfl ⟨⟨s, a, b, c, rfl⟩, ?_⟩
    exact ((Below.refl _ _).alloc (Nat.le_refl _) _).drew
  · refine bodyPost_ret (v := .agg #[.int .i64 5, .string s, .int .i64 a, .int .i64 b, .int .i64 c, .bool true]) (by simp [results, Tryd.results82, go_sem]) rfl ⟨⟨s, a, b, c, rfl⟩, ?_⟩
    exact ((Below.refl _ _).alloc (Nat.le_refl _) _).drew
  · refine bodyPost_ret (v := .agg #[.int .i64 7, .string s, .int .i64 a, .int .i64 b, .int .i64 c, .bool true]) (by simp [results, Tryd.results82, go_sem]) rfl ⟨⟨s, a, b, c, rfl⟩, ?_⟩
    exact ((Below.refl _ _).alloc (Nat.le_refl _) _).drew
  · refine bodyPost_ret (v := .agg #[.int .i64 op, .string s, .int .i64 a, .int .i64 b, .int .i64 c, .bool false]) (by simp [results, Tryd.results82, go_sem, n3, n4, n5, n7]) rfl ⟨⟨s, a, b, c, by rw [hasOperand_no n3 n4 n5 n7]⟩, ?_⟩
    exact ((Below.refl _ _).alloc (Nat.le_refl _) _).drew

end Go.Proofs.YtabeljpnmmfpgaaDoor
