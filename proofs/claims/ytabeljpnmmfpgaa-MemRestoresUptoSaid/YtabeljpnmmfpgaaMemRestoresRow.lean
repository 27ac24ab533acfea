/-
  MemRestores: of every image Restore's error; of one that is taken the same image comes back.
  Condition: the arguments hold together at most 1048576 values and letters (the second form, UptoSaid).
-/
import Derived.Test.YtabeljpnmmfpgaaMemRestores
import Derived.Test.YtabeljpnmmfpgaaOpenIn
import Derived.Test.YtabeljpnmmfpgaaLawEnd
import Derived.JoinedCond
import Derived.Lib.SmallJoins
namespace Go.Proofs.Ytabeljpnmmfpgaa.memRestores
open Go.RowKit Go.MapKept Go.ChangeShapes Go.WideShapes Go.ChangeAt Go.Joins Go.Deep Go.Proofs.Ytabeljpnmmfpgaa
set_option linter.unusedVariables false

section
variable {H : Type} {enc : TypeId × Value → H} {P : Program} {w : World} {base : Nat} {spare : Nat → Bool} {held : Bool}
theorem array8 {α : Type} {cs : Array α} (h : cs.size = 8) : ∃ c0 c1 c2 c3 c4 c5 c6 c7, cs = #[c0, c1, c2, c3, c4, c5, c6, c7] := by
  obtain ⟨l⟩ := cs
  match l, h with
  | [c0, c1, c2, c3, c4, c5, c6, c7], _ => exact ⟨c0, c1, c2, c3, c4, c5, c6, c7, rfl⟩
theorem open_agg8 {r : Reach} {b0 : Nat} {t : TypeId} {f0 f1 f2 f3 f4 f5 f6 f7 : Field} {v : Value} {d : DataW H} {p : List MemPlace} (hs : P.underlying t = some (.struct #[f0, f1, f2, f3, f4, f5, f6, f7])) (hone : oneCellFields P #[f0, f1, f2, f3, f4, f5, f6, f7] = true) (hC : P.cellsOf t = 8)
    (hv : Value.okWide P w r b0 t v) (h : DataW.Trod enc P w base spare held t v d p) :
    ∃ (v0 v1 v2 v3 v4 v5 v6 v7 : Value) (y0 y1 y2 y3 y4 y5 y6 y7 : DataW H × List MemPlace) (n : Nat), v = .agg #[v0, v1, v2, v3, v4, v5, v6, v7] ∧ d = .agg [y0.1, y1.1, y2.1, y3.1, y4.1, y5.1, y6.1, y7.1] ∧
      DataW.trod enc P w base spare held n f0.type [v0] = some y0 ∧ DataW.trod enc P w base spare held n f1.type [v1] = some y1 ∧ DataW.trod enc P w base spare held n f2.type [v2] = some y2 ∧ DataW.trod enc P w base spare held n f3.type [v3] = some y3 ∧
      DataW.trod enc P w base spare held n f4.type [v4] = some y4 ∧ DataW.trod enc P w base spare held n f5.type [v5] = some y5 ∧ DataW.trod enc P w base spare held n f6.type [v6] = some y6 ∧ DataW.trod enc P w base spare held n f7.type [v7] = some y7 := by
  obtain ⟨cs, rfl, hsz⟩ := okWide_struct hs hv
  obtain ⟨c0, c1, c2, c3, c4, c5, c6, c7, rfl⟩ := array8 (hsz.trans hC)
  obtain ⟨fuel, hf⟩ := h
  obtain ⟨xs, n, _, hx, hl, hlen, hf⟩ := DataW.trod_struct hs hf
  obtain ⟨o0, k0⟩ := hone_of hone 0 f0 rfl
  obtain ⟨o1, k1⟩ := hone_of hone 1 f1 rfl
  obtain ⟨o2, k2⟩ := hone_of hone 2 f2 rfl
  obtain ⟨o3, k3⟩ := hone_of hone 3 f3 rfl
  obtain ⟨o4, k4⟩ := hone_of hone 4 f4 rfl
  obtain ⟨o5, k5⟩ := hone_of hone 5 f5 rfl
  obtain ⟨o6, k6⟩ := hone_of hone 6 f6 rfl
  obtain ⟨o7, k7⟩ := hone_of hone 7 f7 rfl
  match xs, hlen with
  | [y0, y1, y2, y3, y4, y5, y6, y7], _ =>
    have h0 := hf 0 f0 rfl
    have h1 := hf 1 f1 rfl
    have h2 := hf 2 f2 rfl
    have h3 := hf 3 f3 rfl
    have h4 := hf 4 f4 rfl
    have h5 := hf 5 f5 rfl
    have h6 := hf 6 f6 rfl
    have h7 := hf 7 f7 rfl
    refine ⟨c0, c1, c2, c3, c4, c5, c6, c7, y0, y1, y2, y3, y4, y5, y6, y7, n, rfl, ?_, ?_, ?_, ?_, ?_, ?_, ?_, ?_, ?_⟩
    · have := (Prod.ext_iff.1 hx).1; simpa using this
    · simpa [Value.cells, o0, k0] using h0
    · simpa [Value.cells, o1, k1] using h1
    · simpa [Value.cells, o2, k2] using h2
    · simpa [Value.cells, o3, k3] using h3
    · simpa [Value.cells, o4, k4] using h4
    · simpa [Value.cells, o5, k5] using h5
    · simpa [Value.cells, o6, k6] using h6
    · simpa [Value.cells, o7, k7] using h7
end

theorem cellsImage : Try.prog.cellsOf 45 = 8 := by kernel_rfl

set_option maxRecDepth 100000 in
theorem contract (H : Type) (enc : TypeId × Value → H) (W : World) (base : Nat) (args : Array Value) (ds gs : List (DataW H)) (before : List MemPlace)
    (hval : ∀ (j : Nat) t v, Try.f4.params[j]? = some t → args[j]? = some v → Value.okWide Try.prog W .any base t v)
    (hW : DataW.Whole enc Try.prog Try.f4.params.toList Rows.memRestoresSpec.vars false W args.toList ds gs before) (hk : Rows.uptoSmall H (ds ++ gs) = true) :
    Calls Try.prog 4 args W fun e W' => ∃ v, e = .returned v ∧ Rows.memRestoresSpec.post enc Try.prog Try.f4 false true false false W args v W' := by
  have hW' := hW
  obtain ⟨p, q, hA0, hV, rfl, hfz, hnd⟩ := hW
  have hA : DataW.TrodAll enc Try.prog W 0 (fun _ => true) true Try.f4.params.toList args.toList ds p := hA0
  rw [Try.params4] at hA hval
  obtain ⟨v0, vs0, d0, ds0, p0, q0, hargs, rfl, rfl, h0, r0⟩ := trodAll_cons hA
  obtain ⟨v1, vs1, d1, ds1, p1, q1, rfl, rfl, rfl, h1, r1⟩ := trodAll_cons r0
  obtain ⟨rfl, rfl, rfl⟩ := trodAll_nil r1
  obtain rfl : args = #[v0, v1] := by cases args; simp_all
  obtain ⟨rfl, rfl⟩ := trodVars_none hV
  have hk' := bulk_bound hk
  rw [List.append_nil] at hk'
  simp only [Rows.uptoBulkAll] at hk'
  obtain ⟨fu1, h1'⟩ := h1
  obtain ⟨ex0, rfl⟩ := okWide_int Try.underlying3 (hval 1 3 v1 rfl rfl)
  obtain ⟨u0, u1, u2, u3, u4, u5, u6, u7, y0, y1, y2, y3, y4, y5, y6, y7, m, rfl, rfl, g0, g1, g2, g3, g4, g5, g6, g7⟩ := open_agg8 Try.underlying45 (by kernel_rfl) cellsImage (hval 0 45 v0 rfl rfl) h0
  obtain ⟨l, dv, hb, hl1, hl2⟩ := open_banksIn Try.underlying22 cellsBank Try.underlying37 rfl rfl rfl rfl Try.underlying3 cellsInt Try.underlying35 cellsBytes Try.underlying5 cellsU8 g0
  obtain ⟨ram, hr, hrB, hr1⟩ := open_bytesIn Try.underlying35 Try.underlying5 cellsU8 g1
  obtain ⟨scr, hs, hsB, hs1⟩ := open_bytesIn Try.underlying35 Try.underlying5 cellsU8 g2
  obtain ⟨chosen, e3, _, w3⟩ := DataW.trod_int Try.underlying5 g3
  obtain ⟨pad, e4, _, w4⟩ := DataW.trod_int Try.underlying5 g4
  obtain ⟨pitch, e5, _, w5⟩ := DataW.trod_int Try.underlying23 g5
  obtain ⟨volume, e6, _, w6⟩ := DataW.trod_int Try.underlying5 g6
  obtain ⟨time, e7, _, w7⟩ := DataW.trod_int Try.underlying23 g7
  obtain ⟨extra, ex, e8, wx⟩ := DataW.trod_int Try.underlying3 h1'
  simp only [List.cons.injEq, and_true] at e3 e4 e5 e6 e7
  subst e3 e4 e5 e6 e7
  have b0 := bulk_mem (d := y0.1) (l := [y0.1, y1.1, y2.1, y3.1, y4.1, y5.1, y6.1, y7.1]) (by simp)
  have b1 := bulk_mem (d := y1.1) (l := [y0.1, y1.1, y2.1, y3.1, y4.1, y5.1, y6.1, y7.1]) (by simp)
  have b2 := bulk_mem (d := y2.1) (l := [y0.1, y1.1, y2.1, y3.1, y4.1, y5.1, y6.1, y7.1]) (by simp)
  have b3 := bulk_agg [y0.1, y1.1, y2.1, y3.1, y4.1, y5.1, y6.1, y7.1]
  refine (memRestores_walk W ⟨l, ram, scr, chosen, pad, pitch, volume, time⟩ _ _ _ dv ex0 ⟨hb, hr, hs⟩ ⟨⟨hrB, hsB, hb.isB, wf_u8 w3, wf_u8 w4, wf_u16 w5, wf_u8 w6, wf_u16 w7⟩, ⟨by show l.length ≤ _; omega, fun i => by show (l.getD i (0, [])).2.length ≤ _; have := hl2 i; omega⟩, by show ram.length ≤ _; omega, by show scr.length ≤ _; omega⟩).mono fun e W' ⟨he, hg⟩ => ?_
  subst he
  exact ⟨_, rfl, law_post laid_out (by kernel_rfl : Try.f4.resultTypes = #[4]) Try.underlying4 rfl (by kernel_rfl) hW' rfl hg⟩

set_option maxRecDepth 100000 in
theorem lifted (os : Os) (started : os.Started) (H : Type) (enc : TypeId × Value → H) (F : Stop.Interp) :
    ReturnsInHanded {} Try.checked os 4 .any ((Rows.OpenSpec.upto Rows.memRestoresSpec).pre6 enc Try.prog Try.f4 Rows.memRestoresUptoRow.domain false) (((Rows.OpenSpec.upto Rows.memRestoresSpec).at F).post enc Try.prog Try.f4 false true false false) := by
  refine returnsInHanded_of_cond (C := Try.checked) (s := Rows.OpenSpec.upto Rows.memRestoresSpec) (k := Rows.uptoSmall) rfl own_knob started (by kernel_rfl) Try.func4
    (OpenSpec.witness (enc := enc) (C := Try.checked) (s := Rows.OpenSpec.upto Rows.memRestoresSpec) (k := Rows.uptoSmall) rfl false ⟨#[], #[.agg #[.slice none 0 0, .slice none 0 0, .slice none 0 0, .int .u8 0, .int .u8 0, .int .u16 0, .int .u8 0, .int .u16 0], .int .i64 0], []⟩ 8 (by kernel_rfl) (by kernel_rfl) (by kernel_rfl)
      (x := ([.agg [.nil, .nil, .nil, .lit (.int .u8 0), .lit (.int .u8 0), .lit (.int .u16 0), .lit (.int .u8 0), .lit (.int .u16 0)], .lit (.int .i64 0)], [], [])) (by kernel_rfl) rfl (by kernel_rfl)) ?_
  intro W base args ds gs before hval hW _ hk _
  exact contract H enc W base args ds gs before hval hW hk

theorem over : Rows.memRestoresUptoRow.holds Try.pinned (Rows.OpenSpec.upto Rows.memRestoresSpec) :=
  OpenClaim.holds_of_cond 4 Try.f4 rfl rfl rfl rfl rfl rfl rfl ⟨rfl, rfl, rfl, rfl, rfl⟩ rfl rfl rfl rfl rfl (by kernel_rfl) Try.func4 (by kernel_rfl)
    (of_decide_eq_true (by kernel_rfl)) (by unfold Func.isWrapper; first | (rw [if_pos (by decide +kernel)]; kernel_rfl) | (rw [if_neg (by decide +kernel)]; exact ⟨rfl, rfl⟩))
    (fun os started H enc _ F => lifted os started H enc F)

theorem proved : Rows.MemRestoresUptoSaid :=
  over
#print axioms proved
end Go.Proofs.Ytabeljpnmmfpgaa.memRestores
