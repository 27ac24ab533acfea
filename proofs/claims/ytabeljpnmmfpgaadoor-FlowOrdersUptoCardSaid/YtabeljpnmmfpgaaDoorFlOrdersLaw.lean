/-
  FlowOrders: every list of words, whatever they are: their order, or the least one that is left, as the document tells; asked twice, and again in the same list with other addresses; what is handed in stays as it is; all answers are memory of their own. The row's second form and its tied card.
  Condition: the argument holds at most 1048576 values and letters (UptoCardSaid).
-/
import Derived.Test.YtabeljpnmmfpgaaDoorFlOrds
import Derived.Test.YtabeljpnmmfpgaaDoorFlTab
import Derived.Test.YtabeljpnmmfpgaaDoorFlOpen
import Derived.Test.YtabeljpnmmfpgaaDoorFlEnd
import Derived.Test.YtabeljpnmmfpgaaDoorCards
import Derived.Test.YtabeljpnmmfpgaaDoorTie
import Derived.SevenTiedAt
import Derived.JoinedCond
import Derived.Deep.DeepHandedRow
import Derived.Deep.DeepWitnessRowRef
namespace Go.Proofs.YtabeljpnmmfpgaaDoor.flowOrders
open Go.RowKit Go.MapKept Go.ChangeShapes Go.WideShapes Go.ChangeAt Go.Proofs.YtabeljpnmmfpgaaDoor
set_option linter.unusedVariables false

theorem words_nil {H : Type} {enc : TypeId × Value → H} {w : World} {base : Nat} {spare : Nat → Bool} {held : Bool} {fuel n c : Nat} {a : Option Addr} {x : DataW H × List MemPlace} (h : DataW.trod enc Tryd.prog w base spare held fuel 36 [.slice a n c] = some x) : a = none → c = 0 := by
  intro e
  rcases Deep.open_slice Tryd.underlying36 h with ⟨h1, rfl⟩ | ⟨a', len, cap, m, k, D, Pl, h1, _⟩
  · simp only [List.cons.injEq, and_true] at h1
    injection h1
  · simp only [List.cons.injEq, and_true] at h1
    injection h1 with h2 _ _
    rw [e] at h2
    cases h2

set_option maxRecDepth 100000 in
theorem contract (H : Type) (enc : TypeId × Value → H) (W : World) (base : Nat) (args : Array Value) (ds gs : List (DataW H)) (before : List MemPlace)
    (hval : ∀ (j : Nat) t v, Tryd.f7.params[j]? = some t → args[j]? = some v → Value.okWide Tryd.prog W .any base t v)
    (hW : DataW.Whole enc Tryd.prog Tryd.f7.params.toList Rows.flowOrdersSpec.vars false W args.toList ds gs before) (hk : Rows.uptoSmall H (ds ++ gs) = true) (hL : laidMetH Tryd.prog laid4 W) :
    Calls Tryd.prog 7 args W fun e W' => ∃ v, e = .returned v ∧ Rows.flowOrdersSpec.post enc Tryd.prog Tryd.f7 false true false false W args v W' := by
  have hW' := hW
  obtain ⟨p, q, hA0, hV, rfl, hfz, hnd⟩ := hW
  have hA : DataW.TrodAll enc Tryd.prog W 0 (fun _ => true) true Tryd.f7.params.toList args.toList ds p := hA0
  rw [Tryd.params7] at hA hval
  obtain ⟨v0, vs0, d0, ds0, p0, q0, hargs, rfl, rfl, h0, r0⟩ := trodAll_cons hA
  obtain ⟨rfl, rfl, rfl⟩ := trodAll_nil r0
  obtain rfl : args = #[v0] := by cases args; simp_all
  obtain ⟨rfl, rfl⟩ := trodVars_none hV
  have hk' := bulk_bound hk
  rw [List.append_nil] at hk'
  simp only [Rows.uptoBulkAll] at hk'
  obtain ⟨fu0, h0'⟩ := h0
  obtain ⟨a0, n0, c0, rfl⟩ := okWide_slice Tryd.underlying36 (hval 0 36 v0 rfl rfl)
  have hz := words_nil h0'
  obtain ⟨l, a, c, he, hc, hb, hF⟩ := open_words h0'
  injection he with e1 e2 e3
  subst e1 e2 e3
  dsimp only at hb hF
  refine (orders_any W _ _ l (hF (by omega)) hc (by omega) hz (tab_of_laid hL)).mono fun e W' ⟨he, hg⟩ => ?_
  subst he
  exact ⟨_, rfl, law_post laid_out (by kernel_rfl : Tryd.f7.resultTypes = #[4]) Tryd.underlying4 rfl (by kernel_rfl) hW' rfl hg⟩

set_option maxRecDepth 100000 in
theorem lifted (os : Os) (started : os.Started) (H : Type) (enc : TypeId × Value → H) (F : Stop.Interp) :
    ReturnsInHanded {} Tryd.checked os 7 .any ((Rows.OpenSpec.upto Rows.flowOrdersSpec).preRow enc Tryd.prog Tryd.f7 Rows.flowOrdersUptoRow.domain false Rows.flowOrdersUptoRow.laid) (((Rows.OpenSpec.upto Rows.flowOrdersSpec).at F).post enc Tryd.prog Tryd.f7 false true false false) := by
  have hx : DataW.whole enc Tryd.prog ((World.doorLaid Tryd.prog 65 os).forCall (fun _ _ => 0) ⟨#[], #[.slice none 0 0], []⟩).memory Tryd.f7.params.toList Rows.flowOrdersSpec.vars false #[Value.slice none 0 0].toList 8 = some ([.nil], [], []) := by kernel_rfl
  refine returnsInHanded_of_row (C := Tryd.checked) (s := Rows.OpenSpec.upto Rows.flowOrdersSpec) own started (by kernel_rfl) Tryd.func7
    (witness_row_atRef (enc := enc) (C := Tryd.checked) false (World.doorLaid Tryd.prog 65 os) #[.slice none 0 0] rfl (by kernel_rfl) (by kernel_rfl) (by kernel_rfl)
      (OpenSpec.preRow_of_cond 8 hx (by kernel_rfl) (fun k hk => by cases hk; kernel_rfl) (by kernel_rfl) (door_met os _))) ?_
  intro W base args ds gs before hval hW _ hcond _ hL _ _
  exact contract H enc W base args ds gs before hval hW (hcond _ rfl) hL

theorem over : Rows.FlowOrdersUptoSaid :=
  OpenClaim.holds_of_cond 7 Tryd.f7 rfl rfl rfl rfl rfl rfl rfl ⟨rfl, rfl, rfl, rfl, rfl⟩ rfl rfl rfl rfl rfl (by kernel_rfl) Tryd.func7 (by kernel_rfl)
    (of_decide_eq_true (by kernel_rfl)) (by unfold Func.isWrapper; first | (rw [if_pos (by decide +kernel)]; kernel_rfl) | (rw [if_neg (by decide +kernel)]; exact ⟨rfl, rfl⟩))
    (fun os started H enc _ F => by rw [OpenClaim.pre_eq_preRow]; exact lifted os started H enc F)

/-- ████ THE STATEMENT: the second form's tied card ████ -/
theorem proved : Rows.FlowOrdersUptoCardSaid :=
  Claim7.holds_tied_plain_at .later [] _ _ _ _ over (fun _ h => by cases h) (by kernel_rfl) (fun _ h => by cases h) flowOrdersUpto_row_tie rfl ⟨rfl, rfl⟩ (by kernel_rfl) rfl
    (fun f fn hf hfn => by
      obtain rfl : f = 7 := Option.some.inj ((show Tryd.prog.funcNamed "wisp/wisplaw16.FlowOrders" = some 7 by kernel_rfl).symm.trans hf) |>.symm
      obtain rfl : fn = Tryd.f7 := (Option.some.inj (Tryd.func7.symm.trans hfn)).symm
      refine ⟨by kernel_rfl, fun j t ht => ?_⟩
      rw [Tryd.params7] at ht
      obtain rfl : t = 36 := by simpa using Array.mem_of_getElem? ht
      exact (show Tryd.prog.wantsStandIn 36 = false by kernel_rfl))
    (by kernel_rfl)
#print axioms proved
end Go.Proofs.YtabeljpnmmfpgaaDoor.flowOrders
