/-
  Code: a row of bytes that is read; the cell at an address.
  The table of primitives, as far as flow looks: which primitives have an operand.
  Which primitives have an operand: prim.Of, flow's operand.
-/
import Derived.Lib.Hide
import Derived.BigRegion
import Derived.BigQuiet
import Derived.Deep.QuietTactic
import Derived.Deep.RegionHeld3
import Derived.Deep.DeepCutAuto
import Derived.Deep.CutBlock
import Derived.Laws.BitsLemmas
import Derived.Test.YtabeljpnmmfpgaaDoorFlSort
namespace Go.Proofs.YtabeljpnmmfpgaaDoor
open Go.RowKit Go.MapKept
set_option linter.unusedVariables false
set_option linter.unusedSimpArgs false

/-- A row of bytes that is read. -/
structure CodeIn (w : World) (A : Option Addr) (code : List Int) : Prop where
  byte : ∀ j, 0 ≤ code.getD j 0 ∧ code.getD j 0 < 256
  len : code.length ≤ 1000000000000
  at_ : ∀ j, j < code.length → ∃ ad, A = some ad ∧ w.cell? (ad.add j) = some (.int .u8 (code.getD j 0))
theorem CodeIn.below {w W : World} {A : Option Addr} {code : List Int} (h : CodeIn w A code) (hb : Below w.heap.size w W) : CodeIn W A code :=
  ⟨h.byte, h.len, fun j hj => by
    obtain ⟨ad, e, hc⟩ := h.at_ j hj
    exact ⟨ad, e, (hb.cell (World.block_lt_of_cell? w _ hc)).trans hc⟩⟩
theorem CodeIn.upd {w W : World} {A : Option Addr} {code : List Int} {S : Nat → Prop} (h : CodeIn w A code) (hu : Upd w W S) (hs : ∀ ad, A = some ad → ¬ S ad.block) : CodeIn W A code :=
  ⟨h.byte, h.len, fun j hj => by
    obtain ⟨ad, e, hc⟩ := h.at_ j hj
    refine ⟨ad, e, ?_⟩
    have hlt := World.block_lt_of_cell? w _ hc
    have hb : (ad.add j).block = ad.block := by unfold Addr.add; split <;> rfl
    have := hu.block (ad.add j).block hlt (by rw [hb]; exact hs ad e)
    rw [← hc]
    unfold World.cell?
    rw [this]⟩

/-- The cell at an address. -/
def cellOf (code : List Int) (a : Int) : Option Int := if a % 2 = 0 ∧ a + 1 < (code.length : Int) then some (code.getD a.toNat 0 + 256 * code.getD (a.toNat + 1) 0) else none

theorem or_bytes (x y : Int) (hx : 0 ≤ x ∧ x < 256) (hy : 0 ≤ y ∧ y < 256) : bits .or .u16 x (y * 256) = x + 256 * y := by
  obtain ⟨a, rfl⟩ := Int.eq_ofNat_of_zero_le hx.1
  obtain ⟨b, rfl⟩ := Int.eq_ofNat_of_zero_le hy.1
  have hk : ∀ n : Int, 0 ≤ n → n < 2 ^ 16 → IntKind.u16.wrap n = n := fun n h0 h1 => by simp [IntKind.wrap, IntKind.bits, IntKind.signed]; omega
  have e : ((b : Int) * 256) = ((b * 256 : Nat) : Int) := by omega
  have h1 := (bits_nat .u16 16 (by decide) hk a (b * 256) (by omega) (by omega)).2
  have h2 := (bits_nat .u16 16 (by decide) hk (b * 256) a (by omega) (by omega)).2
  have h3 := bits_join .u16 16 (by decide) hk 8 ((b * 256 : Nat) : Int) (a : Int) (by omega) (by omega) (by omega) (by omega) (by omega) (by omega)
  rw [e, h1, Nat.or_comm, ← h2, h3]
  omega

set_option maxRecDepth 100000 in
set_option maxHeartbeats 4000000 in
theorem cell_any (w : World) (A : Option Addr) (c : Nat) (code : List Int) (a : Int) (h : CodeIn w A code) (h0 : 0 ≤ a) (h1 : a < 65536) :
    Calls Tryd.prog 51 #[.slice A code.length c, .int .u16 a] w fun e w' => e = .returned (.tuple #[.int .u16 ((cellOf code a).getD 0), .bool (cellOf code a).isSome]) ∧ Quiet w w' := by
  by_cases hev : a % 2 = 0
  · have d0 : a.tmod 2 = 0 := by rw [Int.tmod_eq_emod_of_nonneg h0]; exact hev
    by_cases hl : a + 1 < (code.length : Int)
    · have e : cellOf code a = some (code.getD a.toNat 0 + 256 * code.getD (a.toNat + 1) 0) := if_pos ⟨hev, hl⟩
      have hlen := h.len
      obtain ⟨ad, e0, c0⟩ := h.at_ a.toNat (by omega)
      obtain ⟨ad', e1, c1⟩ := h.at_ (a.toNat + 1) (by omega)
      obtain rfl : ad = ad' := by rw [e0] at e1; exact Option.some.inj e1
      obtain ⟨x, hx⟩ : ∃ x, x = code.getD a.toNat 0 := ⟨_, rfl⟩
      obtain ⟨y, hy⟩ : ∃ y, y = code.getD (a.toNat + 1) 0 := ⟨_, rfl⟩
      have bx := h.byte a.toNat
      have by' := h.byte (a.toNat + 1)
      rw [e]
      rw [← hx] at c0 bx ⊢
      rw [← hy] at c1 by' ⊢
      obtain ⟨n, hn⟩ : ∃ n, n = code.length := ⟨_, rfl⟩
      rw [← hn] at hl hlen ⊢
      have hl2 : a < (n : Int) := by omega
      have t1 : (a + 1).toNat = a.toNat + 1 := by omega
      rw [← t1] at c1
      clear t1
      have or1 := or_bytes x y bx by'
      subst e0
      clear e h hx hy hn e1
      go_enter Tryd.func51, Tryd.ntmps51
      go_wp2
      go_region
      go_wp2
      trace_state
      go_ret2
      exact ⟨rfl, _, rfl⟩
    · have e : cellOf code a = none := if_neg (fun h => hl h.2)
      rw [e]
      have hlen := h.len
      obtain ⟨n, hn⟩ : ∃ n, n = code.length := ⟨_, rfl⟩
      rw [← hn] at hl hlen ⊢
      clear e h hn
      go_enter Tryd.func51, Tryd.ntmps51
      go_wp2
      go_ret2
      exact ⟨rfl, Quiet.refl _⟩
  · have d0 : ¬ a.tmod 2 = 0 := by rw [Int.tmod_eq_emod_of_nonneg h0]; exact hev
    have e : cellOf code a = none := if_neg (fun h => hev h.1)
    rw [e]
    clear e h
    go_enter Tryd.func51, Tryd.ntmps51
    go_wp2
    go_ret2
    exact ⟨rfl, Quiet.refl _⟩
end Go.Proofs.YtabeljpnmmfpgaaDoor

namespace Go.Proofs.YtabeljpnmmfpgaaDoor
open Go.RowKit Go.MapKept
set_option linter.unusedVariables false
set_option linter.unusedSimpArgs false

/-- The table's four variables stand. -/
structure Tab (w : World) : Prop where
  size : 4 ≤ w.heap.size
  names : ∀ i : Nat, i < 64 → ∃ s, w.cell? ⟨0, i, none⟩ = some (.string s)
  takes : ∀ i : Nat, i < 64 → ∃ n, w.cell? ⟨1, i, none⟩ = some (.int .u8 n) ∧ 0 ≤ n ∧ n < 256
  leaves : ∀ i : Nat, i < 64 → ∃ n, w.cell? ⟨2, i, none⟩ = some (.int .u8 n) ∧ 0 ≤ n ∧ n < 256
  costs : ∀ i : Nat, i < 64 → ∃ n, w.cell? ⟨3, i, none⟩ = some (.int .u8 n) ∧ 0 ≤ n ∧ n < 256
theorem Tab.move {w W : World} (h : Tab w) (hs : w.heap.size ≤ W.heap.size) (hm : ∀ b, b < 4 → W.heap[b]? = w.heap[b]?) : Tab W := by
  have hc : ∀ b i, b < 4 → W.cell? ⟨b, i, none⟩ = w.cell? ⟨b, i, none⟩ := fun b i hb => by
    unfold World.cell?
    rw [hm b hb]
  refine ⟨Nat.le_trans h.size hs, fun i hi => ?_, fun i hi => ?_, fun i hi => ?_, fun i hi => ?_⟩
  · rw [hc 0 i (by omega)]; exact h.names i hi
  · rw [hc 1 i (by omega)]; exact h.takes i hi
  · rw [hc 2 i (by omega)]; exact h.leaves i hi
  · rw [hc 3 i (by omega)]; exact h.costs i hi
theorem Tab.below {w W : World} (h : Tab w) (hb : Below w.heap.size w W) : Tab W := h.move hb.size (fun b hb' => hb.block b (by have := h.size; omega))
theorem Tab.upd {w W : World} {S : Nat → Prop} (h : Tab w) (hu : Upd w W S) (hs : ∀ b, b < 4 → ¬ S b) : Tab W := h.move hu.size (fun b hb' => hu.block b (by have := h.size; omega) (hs b hb'))

theorem cell_alloc_old {w : World} {o : Obj} {b i : Nat} {v : Value} (h : w.cell? ⟨b, i, none⟩ = some v) : (w.alloc o).cell? ⟨b, i, none⟩ = some v :=
  (((Below.refl w.heap.size w).alloc (Nat.le_refl _) o).cell (World.block_lt_of_cell? w _ h)).trans h

/-- Which primitives have an operand. -/
def hasOperand (op : Int) : Bool := op == 3 || op == 4 || op == 5 || op == 7

theorem hasOperand_no {op : Int} (n3 : op ≠ 3) (n4 : op ≠ 4) (n5 : op ≠ 5) (n7 : op ≠ 7) : hasOperand op = false := by unfold hasOperand; simp [n3, n4, n5, n7]

set_option maxRecDepth 100000 in
set_option maxHeartbeats 4000000 in
theorem primOf_any (w : World) (op : Int) (h : Tab w) (h1 : 1 ≤ op) (h64 : op < 64) :
    Calls Tryd.prog 82 #[.int .i64 op] w fun e w' => (∃ s a b c, e = .returned (.agg #[.int .i64 op, .string s, .int .i64 a, .int .i64 b, .int .i64 c, .bool (hasOperand op)])) ∧ Below w.heap.size w w' := by
  obtain ⟨s, c0⟩ := h.names op.toNat (by omega)
  obtain ⟨a, c1, a0, a1⟩ := h.takes op.toNat (by omega)
  obtain ⟨b, c2, b0, b1⟩ := h.leaves op.toNat (by omega)
  obtain ⟨c, c3, d0, d1⟩ := h.costs op.toNat (by omega)
  have hsz := h.size
  clear h
  have h0 : (0 : Int) ≤ op := by omega
  have e0 := cell_alloc_old (o := Obj.cells #[.int .i64 0, .string { data := #[] }, .int .i64 0, .int .i64 0, .int .i64 0, .bool false] 128) c0
  have e1 := cell_alloc_old (o := Obj.cells #[.int .i64 0, .string { data := #[] }, .int .i64 0, .int .i64 0, .int .i64 0, .bool false] 128) c1
  have e2 := cell_alloc_old (o := Obj.cells #[.int .i64 0, .string { data := #[] }, .int .i64 0, .int .i64 0, .int .i64 0, .bool false] 128) c2
  have e3 := cell_alloc_old (o := Obj.cells #[.int .i64 0, .string { data := #[] }, .int .i64 0, .int .i64 0, .int .i64 0, .bool false] 128) c3
  clear c0 c1 c2 c3
  have hc : op = 3 ∨ op = 4 ∨ op = 5 ∨ op = 7 ∨ (op ≠ 3 ∧ op ≠ 4 ∧ op ≠ 5 ∧ op ≠ 7) := by omega
  rcases hc with rfl | rfl | rfl | rfl | ⟨n3, n4, n5, n7⟩
  all_goals
    try simp only [Int.reduceToNat] at e0 e1 e2 e3
    go_enter Tryd.func82, Tryd.ntmps82
    go_wp2
    go_region
    go_wp2
  · refine bodyPost_ret (v := .agg #[.int .i64 3, .string s, .int .i64 a, .int .i64 b, .int .i64 c, .bool true]) (by simp [results, Tryd.results82, go_sem]) rfl ⟨⟨s, a, b, c, rfl⟩, ?_⟩
    exact ((Below.refl _ _).alloc (Nat.le_refl _) _).drew
  · refine bodyPost_ret (v := .agg #[.int .i64 4, .string s, .int .i64 a, .int .i64 b, .int .i64 c, .bool true]) (by simp [results, Tryd.results82, go_sem]) rfl ⟨⟨s, a, b, c, rfl⟩, ?_⟩
    exact ((Below.refl _ _).alloc (Nat.le_refl _) _).drew
  · refine bodyPost_ret (v := .agg #[.int .i64 5, .string s, .int .i64 a, .int .i64 b, .int .i64 c, .bool true]) (by simp [results, Tryd.results82, go_sem]) rfl ⟨⟨s, a, b, c, rfl⟩, ?_⟩
    exact ((Below.refl _ _).alloc (Nat.le_refl _) _).drew
  · refine bodyPost_ret (v := .agg #[.int .i64 7, .string s, .int .i64 a, .int .i64 b, .int .i64 c, .bool true]) (by simp [results, Tryd.results82, go_sem]) rfl ⟨⟨s, a, b, c, rfl⟩, ?_⟩
    exact ((Below.refl _ _).alloc (Nat.le_refl _) _).drew
  · refine bodyPost_ret (v := .agg #[.int .i64 op, .string s, .int .i64 a, .int .i64 b, .int .i64 c, .bool false]) (by simp [results, Tryd.results82, go_sem, n3, n4, n5, n7]) rfl ⟨⟨s, a, b, c, by rw [hasOperand_no n3 n4 n5 n7]⟩, ?_⟩
    exact ((Below.refl _ _).alloc (Nat.le_refl _) _).drew

end Go.Proofs.YtabeljpnmmfpgaaDoor

namespace Go.Proofs.YtabeljpnmmfpgaaDoor
open Go.RowKit Go.MapKept
set_option linter.unusedVariables false
set_option linter.unusedSimpArgs false

theorem cells6 {w : World} {b : Nat} {v0 v1 v2 v3 v4 v5 : Value} {t : TypeId} (h : w.heap[b]? = some (.cells #[v0, v1, v2, v3, v4, v5] t (0, 0))) :
    w.cell? ⟨b, 0, none⟩ = some v0 ∧ w.cell? ⟨b, 1, none⟩ = some v1 ∧ w.cell? ⟨b, 2, none⟩ = some v2 ∧ w.cell? ⟨b, 3, none⟩ = some v3 ∧ w.cell? ⟨b, 4, none⟩ = some v4 ∧ w.cell? ⟨b, 5, none⟩ = some v5 ∧
    w.frozen? ⟨b, 0, none⟩ = false ∧ w.frozen? ⟨b, 1, none⟩ = false ∧ w.frozen? ⟨b, 2, none⟩ = false ∧ w.frozen? ⟨b, 3, none⟩ = false ∧ w.frozen? ⟨b, 4, none⟩ = false ∧ w.frozen? ⟨b, 5, none⟩ = false :=
  ⟨cell_of h 0, cell_of h 1, cell_of h 2, cell_of h 3, cell_of h 4, cell_of h 5, free_of h 0, free_of h 1, free_of h 2, free_of h 3, free_of h 4, free_of h 5⟩

theorem below_set1 {B g : Nat} {a b : World} (h : Below B a b) (hp : B ≤ g) (i : Nat) (v : Value) : Below B a (b.setCell ⟨g, i, none⟩ v) :=
  h.trans ⟨rfl, rfl, rfl, by simp [World.setCell], fun j hj => Below.heap_setCell _ _ _ _ (Nat.ne_of_lt (Nat.lt_of_lt_of_le hj hp))⟩
theorem below_set {B : Nat} {a b : World} {p : Addr} (h : Below B a b) (hp : B ≤ p.block) (v : Value) : Below B a (b.setCell p v) :=
  h.trans ⟨rfl, rfl, rfl, by simp [World.setCell], fun i hi => Below.heap_setCell _ _ _ _ (by omega)⟩

set_option maxRecDepth 100000 in
set_option maxHeartbeats 4000000 in
theorem of_any (w : World) (op : Int) (h : Tab w) (h1 : 1 ≤ op) (h64 : op < 64) :
    Calls Tryd.prog 70 #[.int .i64 op] w fun e w' => (∃ s a b c, e = .returned (.tuple #[.agg #[.int .i64 op, .string s, .int .i64 a, .int .i64 b, .int .i64 c, .bool (hasOperand op)], .int .i64 0])) ∧ Below w.heap.size w w' := by
  have H := Lib.hid h
  have d1 : ¬ op < 1 := by omega
  have d2 : ¬ 64 ≤ op := by omega
  have po : Hid (∀ W, Below w.heap.size w W → Calls Tryd.prog 82 #[.int .i64 op] W fun e w' => (∃ s a b c, e = .returned (.agg #[.int .i64 op, .string s, .int .i64 a, .int .i64 b, .int .i64 c, .bool (hasOperand op)])) ∧ Below W.heap.size W w') :=
    fun W hW => primOf_any W op (H.out.below hW) h1 h64
  have hB : Below w.heap.size w (w.alloc (.cells #[.int .i64 0, .string { data := #[] }, .int .i64 0, .int .i64 0, .int .i64 0, .bool false] 128)) := (Below.refl _ _).alloc (Nat.le_refl _) _
  have HB := Lib.hid hB
  obtain ⟨z, hz⟩ : ∃ z, z = hasOperand op := ⟨_, rfl⟩
  rw [← hz] at po ⊢
  clear h hz hB
  go_enter Tryd.func70, Tryd.ntmps70
  go_wp2_with (go_at_call 82; refine (po.out _ HB.out).mono ?_; rintro e W ⟨⟨s, a, b, c, rfl⟩, hW⟩; have hb := (hW.block w.heap.size (by simp)).trans (heap_alloc_at w _); obtain ⟨g0, g1, g2, g3, g4, g5, f0, f1, f2, f3, f4, f5⟩ := cells6 hb; have HC := Lib.hid hb; clear hb; have HW := Lib.hid hW; clear hW)
  have hB2 : Below w.heap.size w W := HB.out.trans ⟨HW.out.os, HW.out.tape, HW.out.output, HW.out.size, fun i hi => HW.out.block i (by simp; omega)⟩
  have hV : ∀ V, V = World.setCell (World.setCell (World.setCell (World.setCell (World.setCell (World.setCell W ⟨w.heap.size, 0, none⟩ (.int .i64 op)) ⟨w.heap.size, 1, none⟩ (.string s)) ⟨w.heap.size, 2, none⟩ (.int .i64 a)) ⟨w.heap.size, 3, none⟩ (.int .i64 b)) ⟨w.heap.size, 4, none⟩ (.int .i64 c)) ⟨w.heap.size, 5, none⟩ (.bool z) →
      V.heap[w.heap.size]? = some (.cells #[.int .i64 op, .string s, .int .i64 a, .int .i64 b, .int .i64 c, .bool z] 128 (0, 0)) ∧ Below w.heap.size w V := by
    rintro V rfl
    refine ⟨heap_set_cell (heap_set_cell (heap_set_cell (heap_set_cell (heap_set_cell (heap_set_cell HC.out 0 _) 1 _) 2 _) 3 _) 4 _) 5 _, ?_⟩
    have le := Nat.le_refl w.heap.size
    exact below_set1 (below_set1 (below_set1 (below_set1 (below_set1 (below_set1 hB2 le _ _) le _ _) le _ _) le _ _) le _ _) le _ _
  generalize hVe : World.setCell (World.setCell _ _ _) _ _ = V
  obtain ⟨hb, hbe⟩ := hV V hVe.symm
  clear hV g0 g1 g2 g3 g4 g5 f0 f1 f2 f3 f4 f5 hVe HC
  obtain ⟨g0, g1, g2, g3, g4, g5, f0, f1, f2, f3, f4, f5⟩ := cells6 hb
  refine bodyPost_ret (v := .tuple #[.agg #[.int .i64 op, .string s, .int .i64 a, .int .i64 b, .int .i64 c, .bool z], .int .i64 0]) (by simp [results, Tryd.results70, go_sem, g0, g1, g2, g3, g4, g5]) rfl ⟨⟨s, a, b, c, rfl⟩, hbe⟩

set_option maxRecDepth 100000 in
set_option maxHeartbeats 4000000 in
theorem operand_any (w : World) (op : Int) (h : Tab w) (h1 : 1 ≤ op) (h64 : op < 64) :
    Calls Tryd.prog 56 #[.int .i64 op] w fun e w' => e = .returned (.bool (hasOperand op)) ∧ Below w.heap.size w w' := by
  have po := Lib.hid (of_any w op h h1 h64)
  obtain ⟨z, hz⟩ : ∃ z, z = hasOperand op := ⟨_, rfl⟩
  rw [← hz] at po ⊢
  clear h hz
  go_enter Tryd.func56, Tryd.ntmps56
  go_wp2_with (go_at_call 70; refine po.out.mono ?_; rintro e W ⟨⟨s, a, b, c, rfl⟩, hW⟩; have HW := Lib.hid hW; clear hW)
  go_ret
  exact ⟨rfl, HW.out.alloc HW.out.size _⟩
end Go.Proofs.YtabeljpnmmfpgaaDoor
