/-
  FlowWords: of every cartridge its words, or the first error with its address, as the document tells; asked twice, and again in the same list with another last cell; what is handed in stays as it is, the room behind it too; all answers are memory of their own. The row's second form and its tied card.
  Condition: the argument holds at most 1048576 values and letters (UptoCardSaid).
-/
import Derived.Test.YtabeljpnmmfpgaaDoorFlWwE
import Derived.Test.YtabeljpnmmfpgaaDoorFlTab
import Derived.Test.YtabeljpnmmfpgaaDoorFlOpenC
import Derived.Test.YtabeljpnmmfpgaaDoorFlEnd
import Derived.Test.YtabeljpnmmfpgaaDoorCards
import Derived.Test.YtabeljpnmmfpgaaDoorTie
import Derived.SevenTiedAt
import Derived.JoinedCond
import Derived.Deep.DeepHandedRow
import Derived.Deep.DeepWitnessRowRef
namespace Go.Proofs.YtabeljpnmmfpgaaDoor.flowWords
open Go.RowKit Go.MapKept Go.ChangeShapes Go.WideShapes Go.ChangeAt Go.Proofs.YtabeljpnmmfpgaaDoor
set_option linter.unusedVariables false

set_option maxRecDepth 100000 in
theorem contract (H : Type) (enc : TypeId × Value → H) (W : World) (base : Nat) (args : Array Value) (ds gs : List (DataW H)) (before : List MemPlace)
    (hval : ∀ (j : Nat) t v, Tryd.f3.params[j]? = some t → args[j]? = some v → Value.okWide Tryd.prog W .any base t v)
    (hW : DataW.Whole enc Tryd.prog Tryd.f3.params.toList Rows.flowWordsSpec.vars false W args.toList ds gs before) (hk : Rows.uptoSmall H (ds ++ gs) = true) (hL : laidMetH Tryd.prog laid4 W) :
    Calls Tryd.prog 3 args W fun e W' => ∃ v, e = .returned v ∧ Rows.flowWordsSpec.post enc Tryd.prog Tryd.f3 false true false false W args v W' := by
  have hW' := hW
  obtain ⟨p, q, hA0, hV, rfl, hfz, hnd⟩ := hW
  have hA : DataW.TrodAll enc Tryd.prog W 0 (fun _ => true) true Tryd.f3.params.toList args.toList ds p := hA0
  rw [Tryd.params3] at hA hval
  obtain ⟨v0, vs0, d0, ds0, p0, q0, hargs, rfl, rfl, h0, r0⟩ := trodAll_cons hA
  obtain ⟨rfl, rfl, rfl⟩ := trodAll_nil r0
  obtain rfl : args = #[v0] := by cases args; simp_all
  obtain ⟨rfl, rfl⟩ := trodVars_none hV
  have hk' := bulk_bound hk
  rw [List.append_nil] at hk'
  simp only [Rows.uptoBulkAll] at hk'
  obtain ⟨A, c, code, en, Ae, ce, E, Ab, cb, B, rfl, hC, hA2, hl, hE, hB, e0, e1⟩ := open_cart (hval 0 27 v0 rfl rfl) h0 (by omega)
  refine (flowWords_any W A code.length c code en Ae E.length ce E Ab B.length cb B hC rfl hA2 (by omega) (tab_of_laid hL) hE rfl hB rfl e0 e1).mono fun e W' ⟨he, hg⟩ => ?_
  subst he
  exact ⟨_, rfl, law_post laid_out (by kernel_rfl : Tryd.f3.resultTypes = #[4]) Tryd.underlying4 rfl (by kernel_rfl) hW' rfl hg⟩

set_option maxRecDepth 100000 in
theorem lifted (os : Os) (started : os.Started) (H : Type) (enc : TypeId × Value → H) (F : Stop.Interp) :
    ReturnsInHanded {} Tryd.checked os 3 .any ((Rows.OpenSpec.upto Rows.flowWordsSpec).preRow enc Tryd.prog Tryd.f3 Rows.flowWordsUptoRow.domain false Rows.flowWordsUptoRow.laid) (((Rows.OpenSpec.upto Rows.flowWordsSpec).at F).post enc Tryd.prog Tryd.f3 false true false false) := by
  have hx : DataW.whole enc Tryd.prog ((World.doorLaid Tryd.prog 65 os).forCall (fun _ _ => 0) ⟨#[], #[.agg #[.slice none 0 0, .int .u16 0, .slice none 0 0, .slice none 0 0]], []⟩).memory Tryd.f3.params.toList Rows.flowWordsSpec.vars false #[Value.agg #[.slice none 0 0, .int .u16 0, .slice none 0 0, .slice none 0 0]].toList 8 = some ([.agg [.nil, .lit (.int .u16 0), .nil, .nil]], [], []) := by kernel_rfl
  refine returnsInHanded_of_row (C := Tryd.checked) (s := Rows.OpenSpec.upto Rows.flowWordsSpec) own started (by kernel_rfl) Tryd.func3
    (witness_row_atRef (enc := enc) (C := Tryd.checked) false (World.doorLaid Tryd.prog 65 os) #[.agg #[.slice none 0 0, .int .u16 0, .slice none 0 0, .slice none 0 0]] rfl (by kernel_rfl) (by kernel_rfl) (by kernel_rfl)
      (OpenSpec.preRow_of_cond 8 hx (by kernel_rfl) (fun k hk => by cases hk; kernel_rfl) (by kernel_rfl) (door_met os _))) ?_
  intro W base args ds gs before hval hW _ hcond _ hL _ _
  exact contract H enc W base args ds gs before hval hW (hcond _ rfl) hL

theorem over : Rows.FlowWordsUptoSaid :=
  OpenClaim.holds_of_cond 3 Tryd.f3 rfl rfl rfl rfl rfl rfl rfl ⟨rfl, rfl, rfl, rfl, rfl⟩ rfl rfl rfl rfl rfl (by kernel_rfl) Tryd.func3 (by kernel_rfl)
    (of_decide_eq_true (by kernel_rfl)) (by unfold Func.isWrapper; first | (rw [if_pos (by decide +kernel)]; kernel_rfl) | (rw [if_neg (by decide +kernel)]; exact ⟨rfl, rfl⟩))
    (fun os started H enc _ F => by rw [OpenClaim.pre_eq_preRow]; exact lifted os started H enc F)

/-- ████ THE STATEMENT: the second form's tied card ████ -/
theorem proved : Rows.FlowWordsUptoCardSaid :=
  Claim7.holds_tied_plain_at .later [] _ _ _ _ over (fun _ h => by cases h) (by kernel_rfl) (fun _ h => by cases h) flowWordsUpto_row_tie rfl ⟨rfl, rfl⟩ (by kernel_rfl) rfl
    (fun f fn hf hfn => by
      obtain rfl : f = 3 := Option.some.inj ((show Tryd.prog.funcNamed "wisp/wisplaw16.FlowWords" = some 3 by kernel_rfl).symm.trans hf) |>.symm
      obtain rfl : fn = Tryd.f3 := (Option.some.inj (Tryd.func3.symm.trans hfn)).symm
      refine ⟨by kernel_rfl, fun j t ht => ?_⟩
      rw [Tryd.params3] at ht
      obtain rfl : t = 27 := by simpa using Array.mem_of_getElem? ht
      exact (show Tryd.prog.wantsStandIn 27 = false by kernel_rfl))
    (by kernel_rfl)
#print axioms proved
end Go.Proofs.YtabeljpnmmfpgaaDoor.flowWords
