/-
  m[n] = v, v, ok := m[n], delete(m, n), len(m) at the operation, over maps keyed by integers.
-/
import Derived.Test.YtabeljpnmmfpgaaBase
import Derived.Maps.OwnOps
import Derived.Maps.OwnSet
import Derived.StillTailTactics
namespace Go.Proofs.Ytabeljpnmmfpgaa
open Go.RowKit Go.MapKept
set_option linter.unusedVariables false

section
variable {P : Program} {w : World} {ops : Array Oper} {rest : List Oper} {o : Oper} {a : Act} {Q : Exit → Act → World → Prop}

theorem wpList_imap_put (hg : o.guard = none) (m x v : Operand) (t : TypeId) (hop : o.op = Op.mapUpdate t m x v) (k e : TypeId) (q : IntKind) (ht : P.underlying t = some (.map k e)) (hk : P.underlying k = some (.int q))
    (r : Nat) (es : Array MapEntry) (clk : Nat) (f : Int → Option Value) (hm : a.eval m = .map (some r)) (hb : w.heap[r]? = some (.map es clk)) (H : IMap q es clk f) (n : Int) (val : Value) (hx : a.eval x = .int q n) (hv : a.eval v = val)
    (hK : ∀ (w' : World) (es' : Array MapEntry) (clk' : Nat), w'.heap[r]? = some (.map es' clk') → IMap q es' clk' (fun j => if j = n then some val else f j) → es'.size ≤ es.size + 1 → w.grownBy w' (some r) → wpList P ops Q rest (a.put o.dst undef) w') :
    wpList P ops Q (o :: rest) a w := by
  refine wpList_plain hg fun K' hK' => ?_
  obtain ⟨es', clk', hrun, H', h1, h2⟩ := H.put hb ht hk n val
  have hlt := heap_lt hb
  unfold Oper.wp
  simp [execOp, hop, hm, hx, hv, hrun, Result.andThen]
  exact hK' _ _ (hK _ es' clk' (by simp [hlt]) H' h1 ⟨rfl, rfl, rfl, by simp, fun i hi hne => by
    show (w.heap.setIfInBounds r _)[i]? = _
    rw [Array.getElem?_setIfInBounds, if_neg (by rintro rfl; exact hne rfl)]⟩)
end
end Go.Proofs.Ytabeljpnmmfpgaa
