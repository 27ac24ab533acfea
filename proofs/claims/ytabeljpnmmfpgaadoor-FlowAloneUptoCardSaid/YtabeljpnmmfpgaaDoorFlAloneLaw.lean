/-
  FlowAlone: bytes of code that no word leads to may be any: the words are the same. The row's second form and its tied card.
  Condition: the arguments hold together at most 1048576 values and letters (UptoCardSaid).
-/
import Derived.Test.YtabeljpnmmfpgaaDoorFlAlB
import Derived.Test.YtabeljpnmmfpgaaDoorFlTab
import Derived.Test.YtabeljpnmmfpgaaDoorFlOpenC
import Derived.Test.YtabeljpnmmfpgaaDoorFlEnd
import Derived.Test.YtabeljpnmmfpgaaDoorCards
import Derived.Test.YtabeljpnmmfpgaaDoorTie
import Derived.SevenTiedAt
import Derived.JoinedCond
import Derived.Deep.DeepHandedRow
import Derived.Deep.DeepWitnessRowRef
namespace Go.Proofs.YtabeljpnmmfpgaaDoor.flowAlone
open Go.RowKit Go.MapKept Go.ChangeShapes Go.WideShapes Go.ChangeAt Go.Proofs.YtabeljpnmmfpgaaDoor
set_option linter.unusedVariables false

set_option maxRecDepth 100000 in
theorem contract (H : Type) (enc : TypeId × Value → H) (W : World) (base : Nat) (args : Array Value) (ds gs : List (DataW H)) (before : List MemPlace)
    (hval : ∀ (j : Nat) t v, Tryd.f5.params[j]? = some t → args[j]? = some v → Value.okWide Tryd.prog W .any base t v)
    (hW : DataW.Whole enc Tryd.prog Tryd.f5.params.toList Rows.flowAloneSpec.vars false W args.toList ds gs before) (hk : Rows.uptoSmall H (ds ++ gs) = true) (hL : laidMetH Tryd.prog laid4 W) :
    Calls Tryd.prog 5 args W fun e W' => ∃ v, e = .returned v ∧ Rows.flowAloneSpec.post enc Tryd.prog Tryd.f5 false true false false W args v W' := by
  have hW' := hW
  obtain ⟨p, q, hA0, hV, rfl, hfz, hnd⟩ := hW
  have hA : DataW.TrodAll enc Tryd.prog W 0 (fun _ => true) true Tryd.f5.params.toList args.toList ds p := hA0
  rw [Tryd.params5] at hA hval
  obtain ⟨v0, vs0, d0, ds0, p0, q0, hargs, rfl, rfl, h0, r0⟩ := trodAll_cons hA
  obtain ⟨v1, vs1, d1, ds1, p1, q1, rfl, rfl, rfl, h1, r1⟩ := trodAll_cons r0
  obtain ⟨rfl, rfl, rfl⟩ := trodAll_nil r1
  obtain rfl : args = #[v0, v1] := by cases args; simp_all
  obtain ⟨rfl, rfl⟩ := trodVars_none hV
  have hk' := bulk_bound hk
  rw [List.append_nil] at hk'
  simp only [Rows.uptoBulkAll] at hk'
  obtain ⟨A, c, code, en, Ae, ce, E, Ab, cb, B, rfl, hC, hA2, hl, hE, hB, e0, e1⟩ := open_cart (hval 0 27 v0 rfl rfl) h0 (by omega)
  obtain ⟨fu1, h1'⟩ := h1
  obtain ⟨a1, m1, k1, rfl⟩ := okWide_slice Tryd.underlying22 (hval 1 22 v1 rfl rfl)
  obtain ⟨junk, J, jc, ej, hJn, hJb, hJC⟩ := open_code Tryd.underlying22 Tryd.underlying5 cU8 h1'
  injection ej with g1 g2 g3
  subst g1 g2 g3
  dsimp only at hJb
  refine (flowAlone_any W A code.length c code en Ae E.length ce E Ab B.length cb B _ junk.length _ junk hC rfl hA2 (by omega) (tab_of_laid hL) hE rfl hB rfl e0 e1 (hJC (by omega)) rfl (by omega)).mono fun e W' ⟨he, hg⟩ => ?_
  subst he
  exact ⟨_, rfl, law_post laid_out (by kernel_rfl : Tryd.f5.resultTypes = #[4]) Tryd.underlying4 rfl (by kernel_rfl) hW' rfl hg⟩

set_option maxRecDepth 100000 in
theorem lifted (os : Os) (started : os.Started) (H : Type) (enc : TypeId × Value → H) (F : Stop.Interp) :
    ReturnsInHanded {} Tryd.checked os 5 .any ((Rows.OpenSpec.upto Rows.flowAloneSpec).preRow enc Tryd.prog Tryd.f5 Rows.flowAloneUptoRow.domain false Rows.flowAloneUptoRow.laid) (((Rows.OpenSpec.upto Rows.flowAloneSpec).at F).post enc Tryd.prog Tryd.f5 false true false false) := by
  have hx : DataW.whole enc Tryd.prog ((World.doorLaid Tryd.prog 65 os).forCall (fun _ _ => 0) ⟨#[], #[.agg #[.slice none 0 0, .int .u16 0, .slice none 0 0, .slice none 0 0], .slice none 0 0], []⟩).memory Tryd.f5.params.toList Rows.flowAloneSpec.vars false #[Value.agg #[.slice none 0 0, .int .u16 0, .slice none 0 0, .slice none 0 0], .slice none 0 0].toList 8 = some ([.agg [.nil, .lit (.int .u16 0), .nil, .nil], .nil], [], []) := by kernel_rfl
  refine returnsInHanded_of_row (C := Tryd.checked) (s := Rows.OpenSpec.upto Rows.flowAloneSpec) own started (by kernel_rfl) Tryd.func5
    (witness_row_atRef (enc := enc) (C := Tryd.checked) false (World.doorLaid Tryd.prog 65 os) #[.agg #[.slice none 0 0, .int .u16 0, .slice none 0 0, .slice none 0 0], .slice none 0 0] rfl (by kernel_rfl) (by kernel_rfl) (by kernel_rfl)
      (OpenSpec.preRow_of_cond 8 hx (by kernel_rfl) (fun k hk => by cases hk; kernel_rfl) (by kernel_rfl) (door_met os _))) ?_
  intro W base args ds gs before hval hW _ hcond _ hL _ _
  exact contract H enc W base args ds gs before hval hW (hcond _ rfl) hL

theorem over : Rows.FlowAloneUptoSaid :=
  OpenClaim.holds_of_cond 5 Tryd.f5 rfl rfl rfl rfl rfl rfl rfl ⟨rfl, rfl, rfl, rfl, rfl⟩ rfl rfl rfl rfl rfl (by kernel_rfl) Tryd.func5 (by kernel_rfl)
    (of_decide_eq_true (by kernel_rfl)) (by unfold Func.isWrapper; first | (rw [if_pos (by decide +kernel)]; kernel_rfl) | (rw [if_neg (by decide +kernel)]; exact ⟨rfl, rfl⟩))
    (fun os started H enc _ F => by rw [OpenClaim.pre_eq_preRow]; exact lifted os started H enc F)

/-- ████ THE STATEMENT: the second form's tied card ████ -/
theorem proved : Rows.FlowAloneUptoCardSaid :=
  Claim7.holds_tied_plain_at .later [] _ _ _ _ over (fun _ h => by cases h) (by kernel_rfl) (fun _ h => by cases h) flowAloneUpto_row_tie rfl ⟨rfl, rfl⟩ (by kernel_rfl) rfl
    (fun f fn hf hfn => by
      obtain rfl : f = 5 := Option.some.inj ((show Tryd.prog.funcNamed "wisp/wisplaw16.FlowAlone" = some 5 by kernel_rfl).symm.trans hf) |>.symm
      obtain rfl : fn = Tryd.f5 := (Option.some.inj (Tryd.func5.symm.trans hfn)).symm
      refine ⟨by kernel_rfl, fun j t ht => ?_⟩
      rw [Tryd.params5] at ht
      have ht2 : t = 27 ∨ t = 22 := by simpa using Array.mem_of_getElem? ht
      rcases ht2 with rfl | rfl
      · exact (show Tryd.prog.wantsStandIn 27 = false by kernel_rfl)
      · exact (show Tryd.prog.wantsStandIn 22 = false by kernel_rfl))
    (by kernel_rfl)
#print axioms proved
end Go.Proofs.YtabeljpnmmfpgaaDoor.flowAlone
