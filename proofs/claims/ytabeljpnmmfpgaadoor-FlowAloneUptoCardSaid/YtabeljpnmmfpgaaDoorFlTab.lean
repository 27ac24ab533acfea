/-
  The four listed variables give the table; the door's own run gives a start.
-/
import Derived.Test.YtabeljpnmmfpgaaDoorFlFix
import Derived.Test.YtabeljpnmmfpgaaDoorRows
import Derived.ProofKit
import Derived.LaidMore
import Derived.OpenShut
import Derived.MakeChecks
import Derived.Stop.Joined
namespace Go.Proofs.YtabeljpnmmfpgaaDoor
open Go.ChangeShapes Go.WideShapes Go.ChangeAt Go.RowKit
set_option linter.unusedVariables false

theorem own : ownKnob Tryd.prog.godebug = none := by kernel_rfl
theorem gNames : Tryd.prog.globalNamed "wisp/prim.names" = some 0 := by kernel_rfl
theorem gTakes : Tryd.prog.globalNamed "wisp/prim.takes" = some 1 := by kernel_rfl
theorem gLeaves : Tryd.prog.globalNamed "wisp/prim.leaves" = some 2 := by kernel_rfl
theorem gCosts : Tryd.prog.globalNamed "wisp/prim.costs" = some 3 := by kernel_rfl
theorem tNames : (Tryd.prog.globals[0]?).map (·.type) = some 157 := by kernel_rfl
theorem tTakes : (Tryd.prog.globals[1]?).map (·.type) = some 158 := by kernel_rfl
theorem tLeaves : (Tryd.prog.globals[2]?).map (·.type) = some 158 := by kernel_rfl
theorem tCosts : (Tryd.prog.globals[3]?).map (·.type) = some 158 := by kernel_rfl

def laid4 : List (String × DataW Unit) := [("wisp/prim.names", Rows.laid_wisp_prim_names), ("wisp/prim.takes", Rows.laid_wisp_prim_takes), ("wisp/prim.leaves", Rows.laid_wisp_prim_leaves), ("wisp/prim.costs", Rows.laid_wisp_prim_costs)]

theorem one_of {cs : List Value} {i : Nat} {v : Value} (h : (cs.drop (i * 1)).take 1 = [v]) : cs[i]? = some v := by
  rw [Nat.mul_one] at h
  have := congrArg (fun l => l[0]?) h
  simpa using this
section
variable {W : World} {enc : TypeId × Value → Unit} {base : Nat} {sp : Nat → Bool} {held : Bool} {fuel : Nat} {cs : List Value} {x : DataW Unit × List MemPlace}
theorem bytes_of (h : DataW.trod enc Tryd.prog W base sp held fuel 158 cs = some x) (i : Nat) (hi : i < 64) : ∃ n, cs[i]? = some (.int .u8 n) ∧ 0 ≤ n ∧ n < 256 := by
  obtain ⟨xs, m, rfl, _, _, hn, hel⟩ := DataW.trod_array Tryd.underlying158 h
  have c1 : Tryd.prog.cellsOf 5 = 1 := by kernel_rfl
  have hx := hel i hi
  rw [c1, List.getElem?_eq_getElem (by omega)] at hx
  obtain ⟨n, e1, e2, w1⟩ := DataW.trod_int Tryd.underlying5 hx
  refine ⟨n, one_of e1, ?_⟩
  have h := w1
  simp [Lit.wf, IntKind.min, IntKind.max, IntKind.signed, IntKind.bits] at h
  omega
theorem strings_of (h : DataW.trod enc Tryd.prog W base sp held fuel 157 cs = some x) (i : Nat) (hi : i < 64) : ∃ s, cs[i]? = some (.string s) := by
  obtain ⟨xs, m, rfl, _, _, hn, hel⟩ := DataW.trod_array Tryd.underlying157 h
  have c1 : Tryd.prog.cellsOf 9 = 1 := by kernel_rfl
  have hx := hel i hi
  rw [c1, List.getElem?_eq_getElem (by omega)] at hx
  obtain ⟨s, e1, e2, w1⟩ := DataW.trod_string Tryd.underlying9 hx
  exact ⟨s, one_of e1⟩
end
theorem tab_of_laid {W : World} (h : laidMetH Tryd.prog laid4 W) : Tab W := by
  rw [MakeChecks.laidMetH_plain _ _ _ (by kernel_rfl)] at h
  obtain ⟨ps, ⟨g0, t0, cs0, f0, p0, q0, hg0, ht0, hv0, hd0, ⟨g1, t1, cs1, f1, p1, q1, hg1, ht1, hv1, hd1, ⟨g2, t2, cs2, f2, p2, q2, hg2, ht2, hv2, hd2, ⟨g3, t3, cs3, f3, p3, q3, hg3, ht3, hv3, hd3, _, _⟩, _⟩, _⟩, _⟩, _, _⟩ := h
  obtain rfl := Option.some.inj (gNames.symm.trans hg0)
  obtain rfl := Option.some.inj (gTakes.symm.trans hg1)
  obtain rfl := Option.some.inj (gLeaves.symm.trans hg2)
  obtain rfl := Option.some.inj (gCosts.symm.trans hg3)
  obtain rfl := Option.some.inj (tNames.symm.trans ht0)
  obtain rfl := Option.some.inj (tTakes.symm.trans ht1)
  obtain rfl := Option.some.inj (tLeaves.symm.trans ht2)
  obtain rfl := Option.some.inj (tCosts.symm.trans ht3)
  have key : ∀ i : Nat, i < 64 → ∃ n, W.cell? ⟨3, i, none⟩ = some (.int .u8 n) ∧ 0 ≤ n ∧ n < 256 := fun i hi => by
    obtain ⟨n, e, hn⟩ := bytes_of hd3 i hi
    exact ⟨n, by rw [World.var?_cell hg3 hv3]; simpa using e, hn⟩
  refine ⟨?_, fun i hi => ?_, fun i hi => ?_, fun i hi => ?_, key⟩
  · obtain ⟨n, e, _⟩ := key 0 (by decide)
    exact World.block_lt_of_cell? W ⟨3, 0, none⟩ e
  · obtain ⟨s, e⟩ := strings_of hd0 i hi
    exact ⟨s, by rw [World.var?_cell hg0 hv0]; simpa using e⟩
  · obtain ⟨n, e, hn⟩ := bytes_of hd1 i hi
    exact ⟨n, by rw [World.var?_cell hg1 hv1]; simpa using e, hn⟩
  · obtain ⟨n, e, hn⟩ := bytes_of hd2 i hi
    exact ⟨n, by rw [World.var?_cell hg2 hv2]; simpa using e, hn⟩

/-- The door's own heap meets the condition. -/
theorem door_met (os : Os) (args : Array Value) : laidMetH Tryd.prog laid4 ((World.doorLaid Tryd.prog 65 os).forCall (fun _ _ => 0) ⟨#[], args, []⟩).memory :=
  laidMetH_of_parts3 (fuel := 8) (laidMet_of_run' 8 (by kernel_rfl) (by kernel_rfl)) (by kernel_rfl) (by kernel_rfl)
end Go.Proofs.YtabeljpnmmfpgaaDoor
