/-
  Image: what stands behind the clone of a round's bank.
-/
import Derived.Test.YtabeljpnmmfpgaaMemImage1b
namespace Go.Proofs.Ytabeljpnmmfpgaa
open Go.RowKit Go.MapKept
set_option linter.unusedVariables false
set_option linter.unusedSimpArgs false

theorem BkRel.x3 {w W w3 : World} {M : Mm} {X : Nat} {l : List (Int × List Int)} {kv : Value} {ks : List Int} {k : Nat} {bv r s : Value} {g c : Nat → Nat} (h : BkRel w W M X l kv ks k bv r s g c)
    (h3 : W.grownBy w3 bv.ownBlock) : w3.heap[X]? = some (.cells (xImg M bv r s) 49 (0, 0)) ∧ Below w.heap.size w w3 := by
  have row : ∀ b, bv.ownBlock = some b → ∃ cs, W.heap[b]? = some (.cells cs 37 (0, 0)) := fun b hb => by
    rcases h.row.2 with ⟨rfl, _⟩ | ⟨q, cap, cur, rfl, _, hh, _⟩
    · simp [Value.ownBlock] at hb
    · simp only [Value.ownBlock, Option.some.injEq] at hb
      subst hb; exact ⟨_, hh⟩
  refine ⟨?_, h.img.below.grown h3 h.img.below.size (fun q hq => by have := (h.row.lt q hq).1; omega)⟩
  rw [h3.block X (Array.getElem?_eq_some_iff.1 h.img.x).1 (fun e => ?_)]
  · exact h.img.x
  · obtain ⟨cs', h4⟩ := row X e.symm
    rw [h.img.x] at h4
    exact cells_ne (by decide) (Option.some.inj h4)

theorem BkRel.round {w wr w1 : World} {M : Mm} {X : Nat} {l : List (Int × List Int)} {kv : Value} {ks : List Int} {k : Nat} {bv r s : Value} {g c : Nat → Nat} {n : Int} {D : List Int} {g' c' : Nat} (h : BkRel w wr M X l kv ks k bv r s g c)
    (hb : Below wr.heap.size wr w1) (hn : l.getD k (0, []) = (n, D)) (hD : D.length = 16384) (hby : BytesIn w1 (.slice (some ⟨g', 0, none⟩) 16384 c') D) (hbl : Blk w w1 5 (.slice (some ⟨g', 0, none⟩) 16384 c')) :
    Below w.heap.size w w1 ∧ Below w.heap.size w (w1.alloc (.cells #[.int .i64 n, .slice (some ⟨g', 0, none⟩) 16384 c'] 37)) ∧ w1.cell? ⟨X, 0, none⟩ = some bv ∧ (w1.alloc (.cells #[.int .i64 n, .slice (some ⟨g', 0, none⟩) 16384 c'] 37)).cell? ⟨X, 0, none⟩ = some bv ∧
    (w1.alloc (.cells #[.int .i64 n, .slice (some ⟨g', 0, none⟩) 16384 c'] 37)).ownsRow (w.heap.size + 1) 37 2 bv k (bankCells l g c k) ∧
    (∀ j u, ([.int .i64 n, .slice (some ⟨g', 0, none⟩) 16384 c'] : List Value)[j]? = some u → (w1.alloc (.cells #[.int .i64 n, .slice (some ⟨g', 0, none⟩) 16384 c'] 37)).cell? ((⟨w1.heap.size, 0, none⟩ : Addr).add j) = some u) ∧
    ∀ v' w3, (w1.alloc (.cells #[.int .i64 n, .slice (some ⟨g', 0, none⟩) 16384 c'] 37)).grownBy w3 bv.ownBlock → w3.ownsRow (w.heap.size + 1) 37 2 v' (k + 1) (bankCells l g c k ++ [.int .i64 n, .slice (some ⟨g', 0, none⟩) 16384 c']) →
      w3.cell? ⟨X, 0, none⟩ = some bv ∧ w3.frozen? ⟨X, 0, none⟩ = false ∧ Below w.heap.size w w3 ∧ Below w.heap.size w (w3.setCell ⟨X, 0, none⟩ v') ∧ ∃ g2 c2, BkRel w (w3.setCell ⟨X, 0, none⟩ v') M X l kv ks (k + 1) v' r s g2 c2 := by
  have h1 := h.next hb
  have hba : Below w1.heap.size w1 (w1.alloc (.cells #[.int .i64 n, .slice (some ⟨g', 0, none⟩) 16384 c'] 37)) := (Below.refl _ _).alloc (Nat.le_refl _) _
  have h2 := h1.next hba
  refine ⟨h1.img.below, h2.img.below, (cells8 h1.img.x).1, (cells8 h2.img.x).1, h2.row, fun j u hj => ?_, fun v' w3 hg ho => ?_⟩
  · rw [addr_add, Nat.zero_add, cell_of (heap_alloc_at w1 _)]
    simpa using hj
  · obtain ⟨q1, q2⟩ := h2.x3 hg
    have hl2 : (l.getD k (0, [])).2.length = 16384 := by rw [hn]; exact hD
    have hstep := h2.step (v' := v') (g' := g') (c' := c') (by rw [hl2, hn]; exact hby.below hba) (by rw [hl2]; exact hbl.below hba) hg (by rw [hl2, hn]; exact ho)
    exact ⟨(cells8 q1).1, (cells8 q1).2.2.2.2.2.2.2.2 0, q2, hstep.img.below, _, _, hstep⟩

theorem asc_len : ∀ (l : List Int) (lo hi : Int), l.Pairwise (fun x y => x < y) → (∀ x ∈ l, lo ≤ x ∧ x < hi) → l.length ≤ (hi - lo).toNat
  | [], _, _, _, _ => Nat.zero_le _
  | x :: r, lo, hi, hp, hb => by
    obtain ⟨h1, h2⟩ := List.pairwise_cons.1 hp
    obtain ⟨b1, b2⟩ := hb x (by simp)
    have := asc_len r (x + 1) hi h2 (fun y hy => ⟨by have := h1 y hy; omega, (hb y (List.mem_cons_of_mem _ hy)).2⟩)
    rw [List.length_cons]
    omega
end Go.Proofs.Ytabeljpnmmfpgaa
