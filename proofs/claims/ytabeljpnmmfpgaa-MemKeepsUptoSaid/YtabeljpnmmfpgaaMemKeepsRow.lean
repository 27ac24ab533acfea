/-
  MemKeeps: what is written to an address of the window, of 8000 to bfff or of the screen is read there next, and no other reading is another.
  Condition: the arguments hold together at most 1048576 values and letters (the second form, UptoSaid).
-/
import Derived.Test.YtabeljpnmmfpgaaOpenIn
import Derived.Test.YtabeljpnmmfpgaaLawEnd
import Derived.JoinedCond
import Derived.Lib.SmallJoins
namespace Go.Proofs.Ytabeljpnmmfpgaa.memKeeps
open Go.RowKit Go.MapKept Go.ChangeShapes Go.WideShapes Go.ChangeAt Go.Joins Go.Proofs.Ytabeljpnmmfpgaa
set_option linter.unusedVariables false

set_option maxRecDepth 100000 in
theorem contract (H : Type) (enc : TypeId × Value → H) (W : World) (base : Nat) (args : Array Value) (ds gs : List (DataW H)) (before : List MemPlace)
    (hval : ∀ (j : Nat) t v, Try.f3.params[j]? = some t → args[j]? = some v → Value.okWide Try.prog W .any base t v)
    (hW : DataW.Whole enc Try.prog Try.f3.params.toList Rows.memKeepsSpec.vars false W args.toList ds gs before) (hk : Rows.uptoSmall H (ds ++ gs) = true) :
    Calls Try.prog 3 args W fun e W' => ∃ v, e = .returned v ∧ Rows.memKeepsSpec.post enc Try.prog Try.f3 false true false false W args v W' := by
  have hW' := hW
  obtain ⟨p, q, hA0, hV, rfl, hfz, hnd⟩ := hW
  have hA : DataW.TrodAll enc Try.prog W 0 (fun _ => true) true Try.f3.params.toList args.toList ds p := hA0
  rw [Try.params3] at hA hval
  obtain ⟨v0, vs0, d0, ds0, p0, q0, hargs, rfl, rfl, h0, r0⟩ := trodAll_cons hA
  obtain ⟨v1, vs1, d1, ds1, p1, q1, rfl, rfl, rfl, h1, r1⟩ := trodAll_cons r0
  obtain ⟨v2, vs2, d2, ds2, p2, q2, rfl, rfl, rfl, h2, r2⟩ := trodAll_cons r1
  obtain ⟨rfl, rfl, rfl⟩ := trodAll_nil r2
  obtain rfl : args = #[v0, v1, v2] := by cases args; simp_all
  obtain ⟨rfl, rfl⟩ := trodVars_none hV
  have hk' := bulk_bound hk
  rw [List.append_nil] at hk'
  simp only [Rows.uptoBulkAll] at hk'
  obtain ⟨fu0, h0'⟩ := h0
  obtain ⟨fu2, h2'⟩ := h2
  obtain ⟨a0, n0, c0, rfl⟩ := okWide_slice Try.underlying22 (hval 0 22 v0 rfl rfl)
  obtain ⟨a2, n2, c2, rfl⟩ := okWide_slice Try.underlying26 (hval 2 26 v2 rfl rfl)
  obtain ⟨l, dv, hb, hl1, hl2⟩ := open_banksIn Try.underlying22 cellsBank Try.underlying37 rfl rfl rfl rfl Try.underlying3 cellsInt Try.underlying35 cellsBytes Try.underlying5 cellsU8 h0'
  obtain ⟨os, ho, hos⟩ := open_cellsIn Try.underlying26 Try.underlying23 cellsU16 h2'
  obtain ⟨u0, u1, y0, y1, m, rfl, rfl, rfl, hy0, hy1⟩ := open_agg2 Try.underlying25 (by kernel_rfl) cellsPoke (hval 1 25 v1 rfl rfl) h1
  obtain ⟨at_, ea, rfl, wa⟩ := DataW.trod_int Try.underlying23 hy0
  obtain ⟨x, ex, rfl, wx⟩ := DataW.trod_int Try.underlying5 hy1
  simp only [List.cons.injEq, and_true] at ea ex
  subst ea ex
  dsimp only at hl1 hl2 hos
  refine (memKeeps_walk W _ _ l dv at_ x os hb ⟨by omega, fun i => by have := hl2 i; omega⟩ (wf_u16 wa) (wf_u8 wx) ho (by omega)).mono fun e W' ⟨he, hg⟩ => ?_
  subst he
  exact ⟨_, rfl, law_post laid_out (by kernel_rfl : Try.f3.resultTypes = #[4]) Try.underlying4 rfl (by kernel_rfl) hW' rfl hg⟩

set_option maxRecDepth 100000 in
theorem lifted (os : Os) (started : os.Started) (H : Type) (enc : TypeId × Value → H) (F : Stop.Interp) :
    ReturnsInHanded {} Try.checked os 3 .any ((Rows.OpenSpec.upto Rows.memKeepsSpec).pre6 enc Try.prog Try.f3 Rows.memKeepsUptoRow.domain false) (((Rows.OpenSpec.upto Rows.memKeepsSpec).at F).post enc Try.prog Try.f3 false true false false) := by
  refine returnsInHanded_of_cond (C := Try.checked) (s := Rows.OpenSpec.upto Rows.memKeepsSpec) (k := Rows.uptoSmall) rfl own_knob started (by kernel_rfl) Try.func3
    (OpenSpec.witness (enc := enc) (C := Try.checked) (s := Rows.OpenSpec.upto Rows.memKeepsSpec) (k := Rows.uptoSmall) rfl false ⟨#[], #[.slice none 0 0, .agg #[.int .u16 0, .int .u8 0], .slice none 0 0], []⟩ 8 (by kernel_rfl) (by kernel_rfl) (by kernel_rfl)
      (x := ([.nil, .agg [.lit (.int .u16 0), .lit (.int .u8 0)], .nil], [], [])) (by kernel_rfl) rfl (by kernel_rfl)) ?_
  intro W base args ds gs before hval hW _ hk _
  exact contract H enc W base args ds gs before hval hW hk

theorem over : Rows.memKeepsUptoRow.holds Try.pinned (Rows.OpenSpec.upto Rows.memKeepsSpec) :=
  OpenClaim.holds_of_cond 3 Try.f3 rfl rfl rfl rfl rfl rfl rfl ⟨rfl, rfl, rfl, rfl, rfl⟩ rfl rfl rfl rfl rfl (by kernel_rfl) Try.func3 (by kernel_rfl)
    (of_decide_eq_true (by kernel_rfl)) (by unfold Func.isWrapper; first | (rw [if_pos (by decide +kernel)]; kernel_rfl) | (rw [if_neg (by decide +kernel)]; exact ⟨rfl, rfl⟩))
    (fun os started H enc _ F => lifted os started H enc F)

theorem proved : Rows.MemKeepsUptoSaid :=
  over
#print axioms proved
end Go.Proofs.Ytabeljpnmmfpgaa.memKeeps
