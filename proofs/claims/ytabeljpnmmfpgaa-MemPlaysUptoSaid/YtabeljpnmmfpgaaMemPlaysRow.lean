/-
  MemPlays: every script over two memories, copies and restored ones among them, is answered as the document says: every reading, the tones, the images; what is handed in and out may be written over.
  Condition: the arguments hold together at most 1048576 values and letters (the second form, UptoSaid).
-/
import Derived.Test.YtabeljpnmmfpgaaMemPlaysH
import Derived.Test.YtabeljpnmmfpgaaOpenIn
import Derived.Test.YtabeljpnmmfpgaaLawEnd
import Derived.JoinedCond
import Derived.Lib.SmallJoins
namespace Go.Proofs.Ytabeljpnmmfpgaa.memPlays
open Go.RowKit Go.MapKept Go.ChangeShapes Go.WideShapes Go.ChangeAt Go.Joins Go.Deep Go.Proofs.Ytabeljpnmmfpgaa
set_option linter.unusedVariables false

section
variable {H : Type} {enc : TypeId × Value → H} {P : Program} {w : World} {base : Nat} {spare : Nat → Bool} {held : Bool}

theorem map_seven {α β : Type} {f : Nat → Option α} {cs : List α} (h : (List.range 7).mapM f = some cs) : ∃ u0 u1 u2 u3 u4 u5 u6, cs = [u0, u1, u2, u3, u4, u5, u6] ∧ f 0 = some u0 ∧ f 1 = some u1 ∧ f 2 = some u2 ∧ f 3 = some u3 ∧ f 4 = some u4 ∧ f 5 = some u5 ∧ f 6 = some u6 := by
  simp only [List.range_succ, List.range_zero, List.nil_append, List.cons_append] at h
  cases h0 : f 0 with
  | none => simp [h0] at h
  | some u0 =>
  cases h1 : f 1 with
  | none => simp [h0, h1] at h
  | some u1 =>
  cases h2 : f 2 with
  | none => simp [h0, h1, h2] at h
  | some u2 =>
  cases h3 : f 3 with
  | none => simp [h0, h1, h2, h3] at h
  | some u3 =>
  cases h4 : f 4 with
  | none => simp [h0, h1, h2, h3, h4] at h
  | some u4 =>
  cases h5 : f 5 with
  | none => simp [h0, h1, h2, h3, h4, h5] at h
  | some u5 =>
  cases h6 : f 6 with
  | none => simp [h0, h1, h2, h3, h4, h5, h6] at h
  | some u6 =>
    simp [h0, h1, h2, h3, h4, h5, h6] at h
    exact ⟨u0, u1, u2, u3, u4, u5, u6, h.symm, rfl, rfl, rfl, rfl, rfl, rfl, rfl⟩

theorem cells?_seven {w : World} {base : Nat} {a : Addr} {cs : List Value} (h : w.cells? base a 7 = some cs) : ∃ u0 u1 u2 u3 u4 u5 u6, cs = [u0, u1, u2, u3, u4, u5, u6] ∧ w.cell? (a.add 0) = some u0 ∧ w.cell? (a.add 1) = some u1 ∧ w.cell? (a.add 2) = some u2 ∧ w.cell? (a.add 3) = some u3 ∧ w.cell? (a.add 4) = some u4 ∧ w.cell? (a.add 5) = some u5 ∧ w.cell? (a.add 6) = some u6 := by
  unfold World.cells? at h
  split at h
  · exact map_seven (β := Unit) h
  · cases h

theorem open_struct7 {t : TypeId} {f0 f1 f2 f3 f4 f5 f6 : Field} {fuel : Nat} {u0 u1 u2 u3 u4 u5 u6 : Value} {x : DataW H × List MemPlace} (hs : P.underlying t = some (.struct #[f0, f1, f2, f3, f4, f5, f6])) (hone : oneCellFields P #[f0, f1, f2, f3, f4, f5, f6] = true) (h : DataW.trod enc P w base spare held fuel t [u0, u1, u2, u3, u4, u5, u6] = some x) :
    ∃ (y0 y1 y2 y3 y4 y5 y6 : DataW H × List MemPlace) (n : Nat), DataW.trod enc P w base spare held n f0.type [u0] = some y0 ∧ DataW.trod enc P w base spare held n f1.type [u1] = some y1 ∧ DataW.trod enc P w base spare held n f2.type [u2] = some y2 ∧ DataW.trod enc P w base spare held n f3.type [u3] = some y3 ∧
      DataW.trod enc P w base spare held n f4.type [u4] = some y4 ∧ DataW.trod enc P w base spare held n f5.type [u5] = some y5 ∧ DataW.trod enc P w base spare held n f6.type [u6] = some y6 := by
  obtain ⟨xs, n, _, hx, hl, hlen, hf⟩ := DataW.trod_struct hs h
  obtain ⟨o0, k0⟩ := hone_of hone 0 f0 rfl
  obtain ⟨o1, k1⟩ := hone_of hone 1 f1 rfl
  obtain ⟨o2, k2⟩ := hone_of hone 2 f2 rfl
  obtain ⟨o3, k3⟩ := hone_of hone 3 f3 rfl
  obtain ⟨o4, k4⟩ := hone_of hone 4 f4 rfl
  obtain ⟨o5, k5⟩ := hone_of hone 5 f5 rfl
  obtain ⟨o6, k6⟩ := hone_of hone 6 f6 rfl
  match xs, hlen with
  | [y0, y1, y2, y3, y4, y5, y6], _ =>
    have h0 := hf 0 f0 rfl
    have h1 := hf 1 f1 rfl
    have h2 := hf 2 f2 rfl
    have h3 := hf 3 f3 rfl
    have h4 := hf 4 f4 rfl
    have h5 := hf 5 f5 rfl
    have h6 := hf 6 f6 rfl
    refine ⟨y0, y1, y2, y3, y4, y5, y6, n, ?_, ?_, ?_, ?_, ?_, ?_, ?_⟩
    · simpa [o0, k0] using h0
    · simpa [o1, k1] using h1
    · simpa [o2, k2] using h2
    · simpa [o3, k3] using h3
    · simpa [o4, k4] using h4
    · simpa [o5, k5] using h5
    · simpa [o6, k6] using h6
end

instance : Inhabited Opv := ⟨⟨0, 0, 0, 0, 0, 0, 0⟩⟩
theorem cellsOp : Try.prog.cellsOf 76 = 7 := by kernel_rfl

theorem open_opsIn {H : Type} {enc : TypeId × Value → H} {w : World} {base : Nat} {spare : Nat → Bool} {held : Bool} {fuel : Nat} {v : Value} {x : DataW H × List MemPlace} (h : DataW.trod enc Try.prog w base spare held fuel 65 [v] = some x) :
    ∃ os : List Opv, OpsIn w v os ∧ (∀ i, i < os.length → (os.getD i ⟨0, 0, 0, 0, 0, 0, 0⟩).Ok) ∧ os.length ≤ Rows.uptoBulk x.1 := by
  rcases Deep.open_slice Try.underlying65 h with ⟨h1, rfl⟩ | ⟨a, len, cap, m, k, D, Pl, h1, hb, hl, hm, hmm, rfl, hx⟩
  · simp only [List.cons.injEq, and_true] at h1
    subst h1
    exact ⟨[], ⟨none, 0, rfl, fun h => absurd h (by decide)⟩, fun i hi => by simp at hi, by simp⟩
  · simp only [List.cons.injEq, and_true] at h1
    subst h1
    have hlm : len ≤ m := by rw [hmm]; split <;> omega
    have hv : ∀ i, i < len → ∃ o : Opv, (∀ j u, o.cells[j]? = some u → w.cell? ((a.add (i * 7)).add j) = some u) ∧ o.Ok := by
      intro i hi
      obtain ⟨cs, hcs, htr⟩ := hx i (by omega)
      rw [cellsOp] at hcs
      obtain ⟨u0, u1, u2, u3, u4, u5, u6, rfl, c0, c1, c2, c3, c4, c5, c6⟩ := cells?_seven hcs
      obtain ⟨y0, y1, y2, y3, y4, y5, y6, n', g0, g1, g2, g3, g4, g5, g6⟩ := open_struct7 Try.underlying76 (by kernel_rfl) htr
      obtain ⟨q0, e0, _, _⟩ := DataW.trod_int Try.underlying3 g0
      obtain ⟨q1, e1, _, _⟩ := DataW.trod_int Try.underlying3 g1
      obtain ⟨q2, e2, _, w2⟩ := DataW.trod_int Try.underlying23 g2
      obtain ⟨q3, e3, _, w3⟩ := DataW.trod_int Try.underlying23 g3
      obtain ⟨q4, e4, _, w4⟩ := DataW.trod_int Try.underlying23 g4
      obtain ⟨q5, e5, _, w5⟩ := DataW.trod_int Try.underlying23 g5
      obtain ⟨q6, e6, _, _⟩ := DataW.trod_int Try.underlying3 g6
      simp only [List.cons.injEq, and_true] at e0 e1 e2 e3 e4 e5 e6
      subst e0 e1 e2 e3 e4 e5 e6
      refine ⟨⟨q0, q1, q2, q3, q4, q5, q6⟩, fun j u hu => ?_, ⟨wf_u16 w2, wf_u16 w3, wf_u16 w4, wf_u16 w5⟩⟩
      match j, hu with
      | 0, hu => cases hu; exact c0
      | 1, hu => cases hu; exact c1
      | 2, hu => cases hu; exact c2
      | 3, hu => cases hu; exact c3
      | 4, hu => cases hu; exact c4
      | 5, hu => cases hu; exact c5
      | 6, hu => cases hu; exact c6
      | n + 7, hu => simp [Opv.cells] at hu
    obtain ⟨f, hf⟩ := Deep.choose_lt (α := Opv) hv
    have hget : ∀ j, j < len → ((List.range len).map f).getD j ⟨0, 0, 0, 0, 0, 0, 0⟩ = f j := by
      intro j hj
      rw [List.getD_eq_getElem?_getD, List.getElem?_map, List.getElem?_range hj]; rfl
    have hlen : ((List.range len).map f).length = len := by simp
    have bsl : Rows.uptoBulkAll ((List.range len).map D) ≤ Rows.uptoBulk (.slice ((List.range len).map D) ((List.range (m - len)).map fun j => D (len + j))) := bulk_slice _ _
    refine ⟨(List.range len).map f, ⟨some a, cap, by rw [hlen], fun h0 => ?_⟩, fun i hi => ?_, ?_⟩
    · rw [hlen] at h0
      have c0 := (hf 0 h0).1 0 _ rfl
      have ha : (a.add (0 * 7)).add 0 = a := by simp [Addr.add]
      rw [ha] at c0
      have ha2 := cell_addr c0
      refine ⟨a.block, a.off, by rw [← ha2], fun i hi j u hu => ?_⟩
      rw [hlen] at hi
      rw [hget i hi] at hu
      have cj := (hf i hi).1 j u hu
      have ea : a.add (i * 7) = ⟨a.block, a.off + i * 7, none⟩ := by rw [show a.add (i * 7) = (⟨a.block, a.off, none⟩ : Addr).add (i * 7) by rw [← ha2], add_of_plain]
      rw [ea, add_of_plain] at cj
      exact cj
    · rw [hlen] at hi
      rw [hget i hi]; exact (hf i hi).2
    · rw [hlen]
      refine Nat.le_trans ?_ bsl
      refine Nat.le_trans ?_ (bulk_length _)
      simp

set_option maxRecDepth 100000 in
theorem contract (H : Type) (enc : TypeId × Value → H) (W : World) (base : Nat) (args : Array Value) (ds gs : List (DataW H)) (before : List MemPlace)
    (hval : ∀ (j : Nat) t v, Try.f6.params[j]? = some t → args[j]? = some v → Value.okWide Try.prog W .any base t v)
    (hW : DataW.Whole enc Try.prog Try.f6.params.toList Rows.memPlaysSpec.vars false W args.toList ds gs before) (hk : Rows.uptoSmall H (ds ++ gs) = true) :
    Calls Try.prog 6 args W fun e W' => ∃ v, e = .returned v ∧ Rows.memPlaysSpec.post enc Try.prog Try.f6 false true false false W args v W' := by
  have hW' := hW
  obtain ⟨p, q, hA0, hV, rfl, hfz, hnd⟩ := hW
  have hA : DataW.TrodAll enc Try.prog W 0 (fun _ => true) true Try.f6.params.toList args.toList ds p := hA0
  rw [Try.params6] at hA hval
  obtain ⟨v0, vs0, d0, ds0, p0, q0, hargs, rfl, rfl, h0, r0⟩ := trodAll_cons hA
  obtain ⟨v1, vs1, d1, ds1, p1, q1, rfl, rfl, rfl, h1, r1⟩ := trodAll_cons r0
  obtain ⟨rfl, rfl, rfl⟩ := trodAll_nil r1
  obtain rfl : args = #[v0, v1] := by cases args; simp_all
  obtain ⟨rfl, rfl⟩ := trodVars_none hV
  have hk' := bulk_bound hk
  rw [List.append_nil] at hk'
  simp only [Rows.uptoBulkAll] at hk'
  obtain ⟨fu0, h0'⟩ := h0
  obtain ⟨fu1, h1'⟩ := h1
  obtain ⟨a0, n0, c0, rfl⟩ := okWide_slice Try.underlying22 (hval 0 22 v0 rfl rfl)
  obtain ⟨a1, n1, c1, rfl⟩ := okWide_slice Try.underlying65 (hval 1 65 v1 rfl rfl)
  obtain ⟨l, dv, hb, hl1, hl2⟩ := open_banksIn Try.underlying22 cellsBank Try.underlying37 rfl rfl rfl rfl Try.underlying3 cellsInt Try.underlying35 cellsBytes Try.underlying5 cellsU8 h0'
  obtain ⟨os, ho, hok, hos⟩ := open_opsIn h1'
  dsimp only at hl1 hl2 hos
  refine (memPlays_walk W _ _ l dv os hb ⟨by omega, fun i => by have := hl2 i; omega⟩ ho hok (by omega)).mono fun e W' ⟨he, hg⟩ => ?_
  subst he
  exact ⟨_, rfl, law_post laid_out (by kernel_rfl : Try.f6.resultTypes = #[4]) Try.underlying4 rfl (by kernel_rfl) hW' rfl hg⟩

set_option maxRecDepth 100000 in
theorem lifted (os : Os) (started : os.Started) (H : Type) (enc : TypeId × Value → H) (F : Stop.Interp) :
    ReturnsInHanded {} Try.checked os 6 .any ((Rows.OpenSpec.upto Rows.memPlaysSpec).pre6 enc Try.prog Try.f6 Rows.memPlaysUptoRow.domain false) (((Rows.OpenSpec.upto Rows.memPlaysSpec).at F).post enc Try.prog Try.f6 false true false false) := by
  refine returnsInHanded_of_cond (C := Try.checked) (s := Rows.OpenSpec.upto Rows.memPlaysSpec) (k := Rows.uptoSmall) rfl own_knob started (by kernel_rfl) Try.func6
    (OpenSpec.witness (enc := enc) (C := Try.checked) (s := Rows.OpenSpec.upto Rows.memPlaysSpec) (k := Rows.uptoSmall) rfl false ⟨#[], #[.slice none 0 0, .slice none 0 0], []⟩ 8 (by kernel_rfl) (by kernel_rfl) (by kernel_rfl)
      (x := ([.nil, .nil], [], [])) (by kernel_rfl) rfl (by kernel_rfl)) ?_
  intro W base args ds gs before hval hW _ hk _
  exact contract H enc W base args ds gs before hval hW hk

theorem over : Rows.memPlaysUptoRow.holds Try.pinned (Rows.OpenSpec.upto Rows.memPlaysSpec) :=
  OpenClaim.holds_of_cond 6 Try.f6 rfl rfl rfl rfl rfl rfl rfl ⟨rfl, rfl, rfl, rfl, rfl⟩ rfl rfl rfl rfl rfl (by kernel_rfl) Try.func6 (by kernel_rfl)
    (of_decide_eq_true (by kernel_rfl)) (by unfold Func.isWrapper; first | (rw [if_pos (by decide +kernel)]; kernel_rfl) | (rw [if_neg (by decide +kernel)]; exact ⟨rfl, rfl⟩))
    (fun os started H enc _ F => lifted os started H enc F)

theorem proved : Rows.MemPlaysUptoSaid :=
  over
#print axioms proved
end Go.Proofs.Ytabeljpnmmfpgaa.memPlays
