/-
  The argument of FlowOrders and FlowBehind as the row hands it in: a slice of the document's words.
  A cartridge as the row hands it in.
-/
import Derived.Test.YtabeljpnmmfpgaaDoorFlConvB
import Derived.Test.YtabeljpnmmfpgaaDoorRows
import Derived.ProofKit
import Derived.OpenShut
import Derived.Deep.Slices
import Derived.Deep.Strs
import Derived.Test.YtabeljpnmmfpgaaDoorFlCheck
import Derived.JoinedCond
import Derived.Lib.SmallJoins
namespace Go.Proofs.YtabeljpnmmfpgaaDoor
open Go.RowKit Go.MapKept Go.ChangeShapes Go.WideShapes Go.ChangeAt
set_option linter.unusedVariables false
set_option linter.unusedSimpArgs false

theorem bulk_one {H : Type} (d : DataW H) : 1 ≤ Rows.uptoBulk d := by
  cases d with
  | lit l => cases l <;> simp [Rows.uptoBulk]
  | nil => simp [Rows.uptoBulk]
  | ptr d => simp [Rows.uptoBulk]
  | slice a b => simp [Rows.uptoBulk]
  | agg a => simp [Rows.uptoBulk]
  | iface t d => simp [Rows.uptoBulk]
  | map a => simp [Rows.uptoBulk]
  | held a => simp [Rows.uptoBulk]
theorem bulk_length {H : Type} (l : List (DataW H)) : l.length ≤ Rows.uptoBulkAll l := by
  induction l with
  | nil => simp [Rows.uptoBulkAll]
  | cons x r ih => have := bulk_one x; simp only [Rows.uptoBulkAll, List.length_cons]; omega
theorem bulk_mem {H : Type} {d : DataW H} {l : List (DataW H)} (h : d ∈ l) : Rows.uptoBulk d ≤ Rows.uptoBulkAll l := by
  induction l with
  | nil => cases h
  | cons x r ih =>
    simp only [Rows.uptoBulkAll]
    rcases List.mem_cons.1 h with rfl | h
    · omega
    · have := ih h; omega
theorem bulk_slice {H : Type} (a b : List (DataW H)) : Rows.uptoBulkAll a ≤ Rows.uptoBulk (.slice a b) := by simp only [Rows.uptoBulk]; omega
theorem bulk_agg {H : Type} (a : List (DataW H)) : Rows.uptoBulkAll a ≤ Rows.uptoBulk (.agg a) := by simp only [Rows.uptoBulk]; omega
section
variable {H : Type} {enc : TypeId × Value → H} {P : Program} {w : World} {base : Nat} {spare : Nat → Bool} {held : Bool}
theorem cell_addr {w : World} {a : Addr} {v : Value} (h : w.cell? a = some v) : a = ⟨a.block, a.off, none⟩ := by
  obtain ⟨b, o, s⟩ := a
  cases s with
  | none => rfl
  | some x =>
    unfold World.cell? at h
    split at h
    · simp at h
    · cases h
theorem add_of_plain (b o i : Nat) : (⟨b, o, none⟩ : Addr).add i = ⟨b, o + i, none⟩ := by unfold Addr.add; split <;> simp_all
theorem cells?_three {w : World} {base : Nat} {a : Addr} {cs : List Value} (h : w.cells? base a 3 = some cs) : ∃ u v x, cs = [u, v, x] ∧ w.cell? (a.add 0) = some u ∧ w.cell? (a.add 1) = some v ∧ w.cell? (a.add 2) = some x := by
  unfold World.cells? at h
  split at h
  · simp only [List.range_succ, List.range_zero, List.nil_append, List.cons_append] at h
    cases h0 : w.cell? (a.add 0) with
    | none => simp [h0] at h
    | some u =>
      cases h1 : w.cell? (a.add 1) with
      | none => simp [h0, h1] at h
      | some v =>
        cases h2 : w.cell? (a.add 2) with
        | none => simp [h0, h1, h2] at h
        | some x => simp [h0, h1, h2] at h; exact ⟨u, v, x, h.symm, rfl, rfl, rfl⟩
  · cases h
theorem cells?_five {w : World} {base : Nat} {a : Addr} {cs : List Value} (h : w.cells? base a 5 = some cs) : ∃ u0 u1 u2 u3 u4, cs = [u0, u1, u2, u3, u4] ∧ w.cell? (a.add 0) = some u0 ∧ w.cell? (a.add 1) = some u1 ∧ w.cell? (a.add 2) = some u2 ∧ w.cell? (a.add 3) = some u3 ∧ w.cell? (a.add 4) = some u4 := by
  unfold World.cells? at h
  split at h
  · simp only [List.range_succ, List.range_zero, List.nil_append, List.cons_append] at h
    cases h0 : w.cell? (a.add 0) with
    | none => simp [h0] at h
    | some u =>
      cases h1 : w.cell? (a.add 1) with
      | none => simp [h0, h1] at h
      | some v =>
        cases h2 : w.cell? (a.add 2) with
        | none => simp [h0, h1, h2] at h
        | some x =>
          cases h3 : w.cell? (a.add 3) with
          | none => simp [h0, h1, h2, h3] at h
          | some y =>
            cases h4 : w.cell? (a.add 4) with
            | none => simp [h0, h1, h2, h3, h4] at h
            | some z => simp [h0, h1, h2, h3, h4] at h; exact ⟨u, v, x, y, z, h.symm, rfl, rfl, rfl, rfl, rfl⟩
  · cases h
theorem trod_struct5 {t : TypeId} {f0 f1 f2 f3 f4 : Field} {fuel : Nat} {cs : List Value} {x : DataW H × List MemPlace} (ht : P.underlying t = some (.struct #[f0, f1, f2, f3, f4])) (h : DataW.trod enc P w base spare held fuel t cs = some x) :
    ∃ y0 y1 y2 y3 y4 n, x = (.agg [y0.1, y1.1, y2.1, y3.1, y4.1], y0.2 ++ (y1.2 ++ (y2.2 ++ (y3.2 ++ y4.2)))) ∧ DataW.trod enc P w base spare held n f0.type ((cs.drop f0.offset).take (P.cellsOf f0.type)) = some y0 ∧
      DataW.trod enc P w base spare held n f1.type ((cs.drop f1.offset).take (P.cellsOf f1.type)) = some y1 ∧ DataW.trod enc P w base spare held n f2.type ((cs.drop f2.offset).take (P.cellsOf f2.type)) = some y2 ∧
      DataW.trod enc P w base spare held n f3.type ((cs.drop f3.offset).take (P.cellsOf f3.type)) = some y3 ∧ DataW.trod enc P w base spare held n f4.type ((cs.drop f4.offset).take (P.cellsOf f4.type)) = some y4 := by
  obtain ⟨xs, n, _, rfl, hl, hlen, hf⟩ := DataW.trod_struct ht h
  match xs, hlen with
  | [y0, y1, y2, y3, y4], _ => exact ⟨y0, y1, y2, y3, y4, n, by simp, by simpa using hf 0 f0 rfl, by simpa using hf 1 f1 rfl, by simpa using hf 2 f2 rfl, by simpa using hf 3 f3 rfl, by simpa using hf 4 f4 rfl⟩
/-- A slice of one-cell integers. -/
theorem open_nums {t e : TypeId} {q : IntKind} {fuel : Nat} {v : Value} {x : DataW H × List MemPlace} (ht : P.underlying t = some (.slice e)) (he : P.underlying e = some (.int q)) (hc : P.cellsOf e = 1) (h : DataW.trod enc P w base spare held fuel t [v] = some x) :
    ∃ (l : List Int) (a : Option Addr) (c : Nat), v = .slice a l.length c ∧ (a = none → c = 0) ∧ (∀ n ∈ l, (Lit.int q n).wf = true) ∧ l.length ≤ Rows.uptoBulk x.1 ∧ l.length ≤ maxLen ∧
      (0 < l.length → ∃ b o, a = some ⟨b, o, none⟩ ∧ ∀ j, j < l.length → w.cell? ⟨b, o + j, none⟩ = some (.int q (l.getD j 0))) := by
  rcases Deep.open_slice1 ht hc h with ⟨h1, rfl⟩ | ⟨a, len, cap, m, n, V, D, Pl, h1, hb, hl, hm, hmm, rfl, hx⟩
  · simp only [List.cons.injEq, and_true] at h1
    subst h1
    exact ⟨[], none, 0, rfl, fun _ => rfl, by simp, by simp, by simp, fun h => absurd h (by decide)⟩
  · simp only [List.cons.injEq, and_true] at h1
    subst h1
    have hlm : len ≤ m := by rw [hmm]; split <;> omega
    have hv : ∀ i, i < len → ∃ k, V i = .int q k ∧ (Lit.int q k).wf = true := by
      intro i hi
      obtain ⟨k, hk, _, hw⟩ := DataW.trod_int he (hx i (by omega)).2
      simp only [List.cons.injEq, and_true] at hk
      exact ⟨k, hk, hw⟩
    obtain ⟨f, hf⟩ := Deep.choose_lt (α := Int) hv
    have hget : ∀ j, j < len → ((List.range len).map f).getD j 0 = f j := by
      intro j hj
      rw [List.getD_eq_getElem?_getD, List.getElem?_map, List.getElem?_range hj]; rfl
    refine ⟨(List.range len).map f, some a, cap, by simp, (fun e => by cases e), ?_, ?_, by simp; omega, fun h0 => ?_⟩
    · intro n hn
      obtain ⟨i, hi, rfl⟩ := List.mem_map.1 hn
      exact (hf i (List.mem_range.1 hi)).2
    · refine Nat.le_trans ?_ (bulk_slice _ _)
      refine Nat.le_trans ?_ (bulk_length _)
      simp
    · simp only [List.length_map, List.length_range] at h0
      have c0 := (hx 0 (by omega)).1
      have ha : a.add 0 = a := by simp [Addr.add]
      rw [ha] at c0
      have ha2 := cell_addr c0
      refine ⟨a.block, a.off, by rw [← ha2], fun j hj => ?_⟩
      simp only [List.length_map, List.length_range] at hj
      have cj := (hx j (by omega)).1
      rw [hget j hj, ← (hf j hj).1, ← cj]
      congr 1
      rw [show a.add j = (⟨a.block, a.off, none⟩ : Addr).add j by rw [← ha2], add_of_plain]

theorem wf_u16 {n : Int} (h : (Lit.int .u16 n).wf = true) : 0 ≤ n ∧ n < 65536 := by
  simp [Lit.wf, IntKind.min, IntKind.max, IntKind.signed, IntKind.bits] at h; omega
theorem open_calls {t e : TypeId} {fuel : Nat} {v : Value} {x : DataW H × List MemPlace} (ht : P.underlying t = some (.slice e)) (he : P.underlying e = some (.int .u16)) (hc : P.cellsOf e = 1) (h : DataW.trod enc P w base spare held fuel t [v] = some x) :
    ∃ (l : List Int) (a : Option Addr) (c : Nat), v = .slice a l.length c ∧ (a = none → c = 0) ∧ l.length ≤ Rows.uptoBulk x.1 ∧ (l.length ≤ 1000000000000 → AtsIn w a l) := by
  obtain ⟨l, a, c, h1, h2, h3, h4, _, h5⟩ := open_nums ht he hc h
  refine ⟨l, a, c, h1, h2, h4, fun hl => ⟨hl, fun j hj => ?_⟩⟩
  obtain ⟨b, o, e1, h6⟩ := h5 (by omega)
  refine ⟨b, o, e1, ?_⟩
  have := h6 j hj
  rwa [List.getD_eq_getElem?_getD, List.getElem?_eq_getElem hj] at this
end
section
variable {H : Type} {enc : TypeId × Value → H} {w : World} {base : Nat} {spare : Nat → Bool} {held : Bool}
theorem cU16 : Tryd.prog.cellsOf 23 = 1 := by kernel_rfl
theorem cInt : Tryd.prog.cellsOf 3 = 1 := by kernel_rfl
theorem cRInstr : Tryd.prog.cellsOf 91 = 5 := by kernel_rfl
theorem cRWord : Tryd.prog.cellsOf 76 = 3 := by kernel_rfl
theorem open_fi {fuel : Nat} {a : Addr} {cs : List Value} {x : DataW H × List MemPlace} (hc : w.cells? base a 5 = some cs) (h : DataW.trod enc Tryd.prog w base spare held fuel 91 cs = some x) :
    ∃ q : FI, w.cell? (a.add 0) = some (.int .u16 q.at_) ∧ w.cell? (a.add 1) = some (.int .i64 q.op) ∧ w.cell? (a.add 2) = some (.int .u16 q.operand) ∧ w.cell? (a.add 3) = some (.int .u16 q.word) ∧ w.cell? (a.add 4) = some (.int .u16 q.next) := by
  obtain ⟨u0, u1, u2, u3, u4, rfl, c0, c1, c2, c3, c4⟩ := cells?_five hc
  obtain ⟨y0, y1, y2, y3, y4, n, _, g0, g1, g2, g3, g4⟩ := trod_struct5 Tryd.underlying91 h
  simp only [cU16, cInt, List.drop_zero, List.drop_succ_cons, List.take_succ_cons, List.take_zero] at g0 g1 g2 g3 g4
  obtain ⟨q0, e0, _, _⟩ := DataW.trod_int Tryd.underlying23 g0
  obtain ⟨q1, e1, _, _⟩ := DataW.trod_int Tryd.underlying3 g1
  obtain ⟨q2, e2, _, _⟩ := DataW.trod_int Tryd.underlying23 g2
  obtain ⟨q3, e3, _, _⟩ := DataW.trod_int Tryd.underlying23 g3
  obtain ⟨q4, e4, _, _⟩ := DataW.trod_int Tryd.underlying23 g4
  simp only [List.cons.injEq, and_true] at e0 e1 e2 e3 e4
  subst e0 e1 e2 e3 e4
  exact ⟨⟨q0, q1, q2, q3, q4⟩, c0, c1, c2, c3, c4⟩
instance : Inhabited FI := ⟨⟨0, 0, 0, 0, 0⟩⟩
theorem open_ins {fuel : Nat} {v : Value} {x : DataW H × List MemPlace} (h : DataW.trod enc Tryd.prog w base spare held fuel 74 [v] = some x) :
    ∃ (l : List FI) (a : Option Addr) (c : Nat), v = .slice a l.length c ∧ l.length ≤ Rows.uptoBulk x.1 ∧ (l.length ≤ 2000000 → InsIn w a l) := by
  rcases Deep.open_slice Tryd.underlying74 h with ⟨h1, rfl⟩ | ⟨a, len, cap, m, k, D, Pl, h1, hb, hl, hm, hmm, rfl, hx⟩
  · simp only [List.cons.injEq, and_true] at h1
    subst h1
    exact ⟨[], none, 0, rfl, by simp, fun _ => ⟨by simp, fun j hj => by simp at hj⟩⟩
  · simp only [List.cons.injEq, and_true] at h1
    subst h1
    have hlm : len ≤ m := by rw [hmm]; split <;> omega
    have hv : ∀ i, i < len → ∃ q : FI, w.cell? ((a.add (i * 5)).add 0) = some (.int .u16 q.at_) ∧ w.cell? ((a.add (i * 5)).add 1) = some (.int .i64 q.op) ∧ w.cell? ((a.add (i * 5)).add 2) = some (.int .u16 q.operand) ∧ w.cell? ((a.add (i * 5)).add 3) = some (.int .u16 q.word) ∧ w.cell? ((a.add (i * 5)).add 4) = some (.int .u16 q.next) := by
      intro i hi
      obtain ⟨cs, hcs, htr⟩ := hx i (by omega)
      rw [cRInstr] at hcs
      exact open_fi hcs htr
    obtain ⟨f, hf⟩ := Deep.choose_lt (α := FI) hv
    have hlen : ((List.range len).map f).length = len := by simp
    refine ⟨(List.range len).map f, some a, cap, by rw [hlen], ?_, fun hs => ⟨hs, fun j hj => ?_⟩⟩
    · rw [hlen]
      refine Nat.le_trans ?_ (bulk_slice _ _)
      refine Nat.le_trans ?_ (bulk_length _)
      simp
    · rw [hlen] at hj
      have e : ((List.range len).map f)[j]'(by simpa using hj) = f j := by simp
      have c0 := (hf 0 (by omega)).1
      have ha : (a.add (0 * 5)).add 0 = a := by simp [Addr.add]
      rw [ha] at c0
      have ha2 := cell_addr c0
      have ea : ∀ q, (a.add (j * 5)).add q = ⟨a.block, a.off + j * 5 + q, none⟩ := fun q => by
        rw [show a.add (j * 5) = (⟨a.block, a.off, none⟩ : Addr).add (j * 5) by rw [← ha2], add_of_plain, add_of_plain]
      obtain ⟨d0, d1, d2, d3, d4⟩ := hf j hj
      rw [ea] at d0 d1 d2 d3 d4
      exact ⟨a.block, a.off, by rw [← ha2], by rw [e]; exact d0, by rw [e]; exact d1, by rw [e]; exact d2, by rw [e]; exact d3, by rw [e]; exact d4⟩
/-- A word as read: what its three cells hold. -/
structure WRead (w : World) (a : Addr) (B : Nat) (x : FW) (ia : Option Addr) (ic : Nat) (ca : Option Addr) (cc : Nat) : Prop where
  at0 : 0 ≤ x.at_
  at1 : x.at_ < 65536
  c0 : w.cell? (a.add 0) = some (.int .u16 x.at_)
  c1 : w.cell? (a.add 1) = some (.slice ia x.instrs.length ic)
  c2 : w.cell? (a.add 2) = some (.slice ca x.calls.length cc)
  ins : x.instrs.length ≤ 2000000 → InsIn w ia x.instrs
  calls : x.calls.length ≤ 1000000000000 → AtsIn w ca x.calls
  nil : ca = none → cc = 0
  bi : x.instrs.length ≤ B
  bc : x.calls.length ≤ B
theorem open_fw {fuel : Nat} {a : Addr} {cs : List Value} {x : DataW H × List MemPlace} (hc : w.cells? base a 3 = some cs) (h : DataW.trod enc Tryd.prog w base spare held fuel 76 cs = some x) :
    ∃ (q : FW × Option Addr × Nat × Option Addr × Nat), WRead w a (Rows.uptoBulk x.1) q.1 q.2.1 q.2.2.1 q.2.2.2.1 q.2.2.2.2 := by
  obtain ⟨u0, u1, u2, rfl, c0, c1, c2⟩ := cells?_three hc
  obtain ⟨y0, y1, y2, n, rfl, _, g0, g1, g2⟩ := Deep.trod_struct3 Tryd.underlying76 h
  have cI : Tryd.prog.cellsOf 74 = 1 := by kernel_rfl
  have cU : Tryd.prog.cellsOf 51 = 1 := by kernel_rfl
  simp only [cU16, cI, cU, List.drop_zero, List.drop_succ_cons, List.take_succ_cons, List.take_zero] at g0 g1 g2
  obtain ⟨q0, e0, _, w0⟩ := DataW.trod_int Tryd.underlying23 g0
  obtain ⟨li, ia, ic, e1, b1, i1⟩ := open_ins g1
  obtain ⟨lc, ca, cc, e2, n2, b2, i2⟩ := open_calls Tryd.underlying51 Tryd.underlying23 cU16 g2
  simp only [List.cons.injEq, and_true] at e0
  subst e0 e1 e2
  obtain ⟨h0, h1⟩ := wf_u16 w0
  exact ⟨(⟨q0, li, lc⟩, ia, ic, ca, cc), h0, h1, c0, c1, c2, i1, i2, n2, Nat.le_trans b1 (Nat.le_trans (bulk_mem (l := [y0.1, y1.1, y2.1]) (by simp)) (bulk_agg _)), Nat.le_trans b2 (Nat.le_trans (bulk_mem (l := [y0.1, y1.1, y2.1]) (by simp)) (bulk_agg _))⟩
instance : Inhabited FW := ⟨⟨0, [], []⟩⟩
/-- The argument: a slice of words. -/
theorem open_words {fuel : Nat} {v : Value} {x : DataW H × List MemPlace} (h : DataW.trod enc Tryd.prog w base spare held fuel 36 [v] = some x) :
    ∃ (l : List FW) (a : Option Addr) (c : Nat), v = .slice a l.length c ∧ l.length ≤ c ∧ l.length ≤ Rows.uptoBulk x.1 ∧ (Rows.uptoBulk x.1 ≤ 2000000 → FWin w a l) := by
  rcases Deep.open_slice Tryd.underlying36 h with ⟨h1, rfl⟩ | ⟨a, len, cap, m, k, D, Pl, h1, hb, hl, hm, hmm, rfl, hx⟩
  · simp only [List.cons.injEq, and_true] at h1
    subst h1
    exact ⟨[], none, 0, rfl, by simp, by simp, fun _ i hi => by simp at hi⟩
  · simp only [List.cons.injEq, and_true] at h1
    subst h1
    have hlm : len ≤ m := by rw [hmm]; split <;> omega
    have hv : ∀ i, i < len → ∃ (q : FW × Option Addr × Nat × Option Addr × Nat), WRead w (a.add (i * 3)) (Rows.uptoBulk (D i)) q.1 q.2.1 q.2.2.1 q.2.2.2.1 q.2.2.2.2 := by
      intro i hi
      obtain ⟨cs, hcs, htr⟩ := hx i (by omega)
      rw [cRWord] at hcs
      exact open_fw hcs htr
    obtain ⟨f, hf⟩ := Deep.choose_lt hv
    have hlen : ((List.range len).map fun i => (f i).1).length = len := by simp
    have bsl : Rows.uptoBulkAll ((List.range len).map D) ≤ Rows.uptoBulk (.slice ((List.range len).map D) ((List.range (m - len)).map fun j => D (len + j))) := bulk_slice _ _
    refine ⟨(List.range len).map fun i => (f i).1, some a, cap, by rw [hlen], by rw [hlen]; exact hl, ?_, fun hs j hj => ?_⟩
    · rw [hlen]
      refine Nat.le_trans ?_ bsl
      refine Nat.le_trans ?_ (bulk_length _)
      simp
    · rw [hlen] at hj
      have e : ((List.range len).map fun i => (f i).1)[j]'(by simpa using hj) = (f j).1 := by simp
      have c0 := (hf 0 (by omega)).c0
      have ha : (a.add (0 * 3)).add 0 = a := by simp [Addr.add]
      rw [ha] at c0
      have ha2 := cell_addr c0
      have ea : ∀ q, (a.add (j * 3)).add q = ⟨a.block, a.off + j * 3 + q, none⟩ := fun q => by
        rw [show a.add (j * 3) = (⟨a.block, a.off, none⟩ : Addr).add (j * 3) by rw [← ha2], add_of_plain, add_of_plain]
      have r := hf j hj
      have bd : Rows.uptoBulk (D j) ≤ 2000000 := Nat.le_trans (Nat.le_trans (bulk_mem (List.mem_map.2 ⟨j, List.mem_range.2 hj, rfl⟩)) bsl) hs
      have r0 := r.c0; have r1 := r.c1; have r2 := r.c2
      rw [ea] at r0 r1 r2
      refine ⟨a.block, a.off, (f j).2.1, (f j).2.2.1, (f j).2.2.2.1, (f j).2.2.2.2, by rw [← ha2], ?_⟩
      rw [e]
      exact ⟨r.at0, r.at1, r0, r1, r2, r.ins (Nat.le_trans r.bi bd), r.calls (Nat.le_trans r.bc (by omega)), Nat.le_trans r.bc bd, r.nil⟩
end
end Go.Proofs.YtabeljpnmmfpgaaDoor

namespace Go.Proofs.YtabeljpnmmfpgaaDoor
open Go.RowKit Go.MapKept Go.ChangeShapes Go.WideShapes Go.ChangeAt Go.Joins Go.Deep
set_option linter.unusedVariables false
set_option linter.unusedSimpArgs false

section
variable {H : Type} {enc : TypeId × Value → H} {P : Program} {w : World} {base : Nat} {spare : Nat → Bool} {held : Bool}
theorem array4 {α : Type} {cs : Array α} (h : cs.size = 4) : ∃ c0 c1 c2 c3, cs = #[c0, c1, c2, c3] := by
  obtain ⟨l⟩ := cs
  match l, h with
  | [c0, c1, c2, c3], _ => exact ⟨c0, c1, c2, c3, rfl⟩
theorem open_agg4 {r : Reach} {b0 : Nat} {t : TypeId} {f0 f1 f2 f3 : Field} {v : Value} {d : DataW H} {p : List MemPlace} (hs : P.underlying t = some (.struct #[f0, f1, f2, f3])) (hone : oneCellFields P #[f0, f1, f2, f3] = true) (hC : P.cellsOf t = 4)
    (hv : Value.okWide P w r b0 t v) (h : DataW.Trod enc P w base spare held t v d p) :
    ∃ (v0 v1 v2 v3 : Value) (y0 y1 y2 y3 : DataW H × List MemPlace) (n : Nat), v = .agg #[v0, v1, v2, v3] ∧ d = .agg [y0.1, y1.1, y2.1, y3.1] ∧
      DataW.trod enc P w base spare held n f0.type [v0] = some y0 ∧ DataW.trod enc P w base spare held n f1.type [v1] = some y1 ∧ DataW.trod enc P w base spare held n f2.type [v2] = some y2 ∧ DataW.trod enc P w base spare held n f3.type [v3] = some y3 := by
  obtain ⟨cs, rfl, hsz⟩ := okWide_struct hs hv
  obtain ⟨c0, c1, c2, c3, rfl⟩ := array4 (hsz.trans hC)
  obtain ⟨fuel, hf⟩ := h
  obtain ⟨xs, n, _, hx, hl, hlen, hf⟩ := DataW.trod_struct hs hf
  obtain ⟨o0, k0⟩ := hone_of hone 0 f0 rfl
  obtain ⟨o1, k1⟩ := hone_of hone 1 f1 rfl
  obtain ⟨o2, k2⟩ := hone_of hone 2 f2 rfl
  obtain ⟨o3, k3⟩ := hone_of hone 3 f3 rfl
  match xs, hlen with
  | [y0, y1, y2, y3], _ =>
    have h0 := hf 0 f0 rfl
    have h1 := hf 1 f1 rfl
    have h2 := hf 2 f2 rfl
    have h3 := hf 3 f3 rfl
    refine ⟨c0, c1, c2, c3, y0, y1, y2, y3, n, rfl, ?_, ?_, ?_, ?_, ?_⟩
    · have := (Prod.ext_iff.1 hx).1; simpa using this
    · simpa [Value.cells, o0, k0] using h0
    · simpa [Value.cells, o1, k1] using h1
    · simpa [Value.cells, o2, k2] using h2
    · simpa [Value.cells, o3, k3] using h3
theorem wf_u8 {n : Int} (h : (Lit.int .u8 n).wf = true) : 0 ≤ n ∧ n < 256 := by
  simp [Lit.wf, IntKind.min, IntKind.max, IntKind.signed, IntKind.bits] at h; omega
/-- The code. -/
theorem open_code {t e : TypeId} {fuel : Nat} {v : Value} {x : DataW H × List MemPlace} (ht : P.underlying t = some (.slice e)) (he : P.underlying e = some (.int .u8)) (hc : P.cellsOf e = 1) (h : DataW.trod enc P w base spare held fuel t [v] = some x) :
    ∃ (l : List Int) (a : Option Addr) (c : Nat), v = .slice a l.length c ∧ (a = none → c = 0) ∧ l.length ≤ Rows.uptoBulk x.1 ∧ (l.length ≤ 1000000000000 → CodeIn w a l) := by
  obtain ⟨l, a, c, h1, h2, h3, h4, _, h5⟩ := open_nums ht he hc h
  refine ⟨l, a, c, h1, h2, h4, fun hl => ⟨fun j => ?_, hl, fun j hj => ?_⟩⟩
  · by_cases hj : j < l.length
    · rw [List.getD_eq_getElem?_getD, List.getElem?_eq_getElem hj]
      exact wf_u8 (h3 _ (List.getElem_mem hj))
    · rw [List.getD_eq_getElem?_getD, List.getElem?_eq_none (by omega)]
      simp
  · obtain ⟨b, o, e1, h6⟩ := h5 (by omega)
    refine ⟨_, e1, ?_⟩
    rw [add_of_plain]
    exact h6 j hj
theorem trod_struct2 {t : TypeId} {f0 f1 : Field} {fuel : Nat} {cs : List Value} {x : DataW H × List MemPlace} (ht : P.underlying t = some (.struct #[f0, f1])) (h : DataW.trod enc P w base spare held fuel t cs = some x) :
    ∃ y0 y1 n, x = (.agg [y0.1, y1.1], y0.2 ++ y1.2) ∧ DataW.trod enc P w base spare held n f0.type ((cs.drop f0.offset).take (P.cellsOf f0.type)) = some y0 ∧ DataW.trod enc P w base spare held n f1.type ((cs.drop f1.offset).take (P.cellsOf f1.type)) = some y1 := by
  obtain ⟨xs, n, _, rfl, hl, hlen, hf⟩ := DataW.trod_struct ht h
  match xs, hlen with
  | [y0, y1], _ => exact ⟨y0, y1, n, by simp, by simpa using hf 0 f0 rfl, by simpa using hf 1 f1 rfl⟩
theorem cells?_two {w : World} {base : Nat} {a : Addr} {cs : List Value} (h : w.cells? base a 2 = some cs) : ∃ u v, cs = [u, v] ∧ w.cell? (a.add 0) = some u ∧ w.cell? (a.add 1) = some v := by
  unfold World.cells? at h
  split at h
  · simp only [List.range_succ, List.range_zero, List.nil_append, List.cons_append] at h
    cases h0 : w.cell? (a.add 0) with
    | none => simp [h0] at h
    | some u =>
      cases h1 : w.cell? (a.add 1) with
      | none => simp [h0, h1] at h
      | some v => simp [h0, h1] at h; exact ⟨u, v, h.symm, rfl, rfl⟩
  · cases h
end
section
variable {H : Type} {enc : TypeId × Value → H} {w : World} {base : Nat} {spare : Nat → Bool} {held : Bool}
theorem cEff : Tryd.prog.cellsOf 99 = 3 := by kernel_rfl
theorem cBank : Tryd.prog.cellsOf 102 = 2 := by kernel_rfl
theorem cCart : Tryd.prog.cellsOf 27 = 4 := by kernel_rfl
theorem cU8 : Tryd.prog.cellsOf 5 = 1 := by kernel_rfl
theorem cBytes : Tryd.prog.cellsOf 22 = 1 := by kernel_rfl
theorem open_eff {fuel : Nat} {a : Addr} {cs : List Value} {x : DataW H × List MemPlace} (hc : w.cells? base a 3 = some cs) (h : DataW.trod enc Tryd.prog w base spare held fuel 99 cs = some x) :
    ∃ q : Int × Int × Int, w.cell? (a.add 0) = some (.int .u16 q.1) ∧ w.cell? (a.add 1) = some (.int .i64 q.2.1) ∧ w.cell? (a.add 2) = some (.int .i64 q.2.2) := by
  obtain ⟨u0, u1, u2, rfl, c0, c1, c2⟩ := cells?_three hc
  obtain ⟨y0, y1, y2, n, rfl, _, g0, g1, g2⟩ := Deep.trod_struct3 Tryd.underlying99 h
  simp only [cU16, cInt, List.drop_zero, List.drop_succ_cons, List.take_succ_cons, List.take_zero] at g0 g1 g2
  obtain ⟨q0, e0, _, _⟩ := DataW.trod_int Tryd.underlying23 g0
  obtain ⟨q1, e1, _, _⟩ := DataW.trod_int Tryd.underlying3 g1
  obtain ⟨q2, e2, _, _⟩ := DataW.trod_int Tryd.underlying3 g2
  simp only [List.cons.injEq, and_true] at e0 e1 e2
  subst e0 e1 e2
  exact ⟨(q0, q1, q2), c0, c1, c2⟩
/-- The declared effects. -/
theorem open_effs {fuel : Nat} {v : Value} {x : DataW H × List MemPlace} (h : DataW.trod enc Tryd.prog w base spare held fuel 24 [v] = some x) :
    ∃ (l : List (Int × Int × Int)) (a : Option Addr) (c : Nat), v = .slice a l.length c ∧ l.length ≤ Rows.uptoBulk x.1 ∧ (l.length ≤ 1000000000000 → EffsIn w a l) := by
  rcases Deep.open_slice Tryd.underlying24 h with ⟨h1, rfl⟩ | ⟨a, len, cap, m, k, D, Pl, h1, hb, hl, hm, hmm, rfl, hx⟩
  · simp only [List.cons.injEq, and_true] at h1
    subst h1
    exact ⟨[], none, 0, rfl, by simp, fun _ => EffsIn.nil w⟩
  · simp only [List.cons.injEq, and_true] at h1
    subst h1
    have hlm : len ≤ m := by rw [hmm]; split <;> omega
    have hv : ∀ i, i < len → ∃ q : Int × Int × Int, w.cell? ((a.add (i * 3)).add 0) = some (.int .u16 q.1) ∧ w.cell? ((a.add (i * 3)).add 1) = some (.int .i64 q.2.1) ∧ w.cell? ((a.add (i * 3)).add 2) = some (.int .i64 q.2.2) := by
      intro i hi
      obtain ⟨cs, hcs, htr⟩ := hx i (by omega)
      rw [cEff] at hcs
      exact open_eff hcs htr
    obtain ⟨f, hf⟩ := Deep.choose_lt (α := Int × Int × Int) hv
    have hlen : ((List.range len).map f).length = len := by simp
    refine ⟨(List.range len).map f, some a, cap, by rw [hlen], ?_, fun hs => ⟨hs, fun j hj => ?_⟩⟩
    · rw [hlen]
      refine Nat.le_trans ?_ (bulk_slice _ _)
      refine Nat.le_trans ?_ (bulk_length _)
      simp
    · rw [hlen] at hj
      have e : ((List.range len).map f)[j]'(by simpa using hj) = f j := by simp
      have c0 := (hf 0 (by omega)).1
      have ha : (a.add (0 * 3)).add 0 = a := by simp [Addr.add]
      rw [ha] at c0
      have ha2 := cell_addr c0
      have ea : ∀ q, (a.add (j * 3)).add q = ⟨a.block, a.off + j * 3 + q, none⟩ := fun q => by
        rw [show a.add (j * 3) = (⟨a.block, a.off, none⟩ : Addr).add (j * 3) by rw [← ha2], add_of_plain, add_of_plain]
      obtain ⟨d0, d1, d2⟩ := hf j hj
      rw [ea] at d0 d1 d2
      exact ⟨a.block, a.off, by rw [← ha2], by rw [e]; exact d0, by rw [e]; exact d1, by rw [e]; exact d2⟩
theorem open_bank {fuel : Nat} {a : Addr} {cs : List Value} {x : DataW H × List MemPlace} (hc : w.cells? base a 2 = some cs) (h : DataW.trod enc Tryd.prog w base spare held fuel 102 cs = some x) :
    ∃ q : Int × Nat, w.cell? (a.add 0) = some (.int .i64 q.1) ∧ ∃ b c, w.cell? (a.add 1) = some (.slice b q.2 c) := by
  obtain ⟨u0, u1, rfl, c0, c1⟩ := cells?_two hc
  obtain ⟨y0, y1, n, _, g0, g1⟩ := trod_struct2 Tryd.underlying102 h
  simp only [cInt, cBytes, List.drop_zero, List.drop_succ_cons, List.take_succ_cons, List.take_zero] at g0 g1
  obtain ⟨q0, e0, _, _⟩ := DataW.trod_int Tryd.underlying3 g0
  obtain ⟨l, b, c, e1, _⟩ := open_nums Tryd.underlying22 Tryd.underlying5 cU8 g1
  simp only [List.cons.injEq, and_true] at e0
  subst e0 e1
  exact ⟨(q0, l.length), c0, b, c, c1⟩
/-- The banks. -/
theorem open_banks {fuel : Nat} {v : Value} {x : DataW H × List MemPlace} (h : DataW.trod enc Tryd.prog w base spare held fuel 25 [v] = some x) :
    ∃ (l : List (Int × Nat)) (a : Option Addr) (c : Nat), v = .slice a l.length c ∧ l.length ≤ Rows.uptoBulk x.1 ∧ (l.length ≤ 1000000000000 → BanksIn w a l) := by
  rcases Deep.open_slice Tryd.underlying25 h with ⟨h1, rfl⟩ | ⟨a, len, cap, m, k, D, Pl, h1, hb, hl, hm, hmm, rfl, hx⟩
  · simp only [List.cons.injEq, and_true] at h1
    subst h1
    exact ⟨[], none, 0, rfl, by simp, fun _ => BanksIn.nil w⟩
  · simp only [List.cons.injEq, and_true] at h1
    subst h1
    have hlm : len ≤ m := by rw [hmm]; split <;> omega
    have hv : ∀ i, i < len → ∃ q : Int × Nat, w.cell? ((a.add (i * 2)).add 0) = some (.int .i64 q.1) ∧ ∃ b c, w.cell? ((a.add (i * 2)).add 1) = some (.slice b q.2 c) := by
      intro i hi
      obtain ⟨cs, hcs, htr⟩ := hx i (by omega)
      rw [cBank] at hcs
      exact open_bank hcs htr
    obtain ⟨f, hf⟩ := Deep.choose_lt (α := Int × Nat) hv
    have hlen : ((List.range len).map f).length = len := by simp
    refine ⟨(List.range len).map f, some a, cap, by rw [hlen], ?_, fun hs => ⟨hs, fun j hj => ?_⟩⟩
    · rw [hlen]
      refine Nat.le_trans ?_ (bulk_slice _ _)
      refine Nat.le_trans ?_ (bulk_length _)
      simp
    · rw [hlen] at hj
      have e : ((List.range len).map f)[j]'(by simpa using hj) = f j := by simp
      have c0 := (hf 0 (by omega)).1
      have ha : (a.add (0 * 2)).add 0 = a := by simp [Addr.add]
      rw [ha] at c0
      have ha2 := cell_addr c0
      have ea : ∀ q, (a.add (j * 2)).add q = ⟨a.block, a.off + j * 2 + q, none⟩ := fun q => by
        rw [show a.add (j * 2) = (⟨a.block, a.off, none⟩ : Addr).add (j * 2) by rw [← ha2], add_of_plain, add_of_plain]
      obtain ⟨d0, b, c, d1⟩ := hf j hj
      rw [ea] at d0 d1
      exact ⟨a.block, a.off, by rw [← ha2], by rw [e]; exact d0, b, c, by rw [e]; exact d1⟩
set_option maxRecDepth 100000 in
/-- A whole cartridge. -/
theorem open_cart {r : Reach} {b0 : Nat} {v : Value} {d : DataW H} {p : List MemPlace} (hv : Value.okWide Tryd.prog w r b0 27 v) (h : DataW.Trod enc Tryd.prog w base spare held 27 v d p) (hk : Rows.uptoBulk d ≤ 1048576) :
    ∃ (A : Option Addr) (c : Nat) (code : List Int) (en : Int) (Ae : Option Addr) (ce : Nat) (E : List (Int × Int × Int)) (Ab : Option Addr) (cb : Nat) (B : List (Int × Nat)), v = .agg #[.slice A code.length c, .int .u16 en, .slice Ae E.length ce, .slice Ab B.length cb] ∧
      CodeIn w A code ∧ (A = none → c = 0) ∧ code.length ≤ 1048576 ∧ EffsIn w Ae E ∧ BanksIn w Ab B ∧ 0 ≤ en ∧ en < 65536 := by
  obtain ⟨u0, u1, u2, u3, y0, y1, y2, y3, m, rfl, rfl, g0, g1, g2, g3⟩ := open_agg4 Tryd.underlying27 (by kernel_rfl) cCart hv h
  obtain ⟨code, A, c, rfl, hA, hb, hC⟩ := open_code Tryd.underlying22 Tryd.underlying5 cU8 g0
  obtain ⟨en, e1, _, w1⟩ := DataW.trod_int Tryd.underlying23 g1
  obtain ⟨E, Ae, ce, rfl, he, hE⟩ := open_effs g2
  obtain ⟨B, Ab, cb, rfl, hbk, hB⟩ := open_banks g3
  simp only [List.cons.injEq, and_true] at e1
  subst e1
  have b0 := bulk_mem (d := y0.1) (l := [y0.1, y1.1, y2.1, y3.1]) (by simp)
  have b2 := bulk_mem (d := y2.1) (l := [y0.1, y1.1, y2.1, y3.1]) (by simp)
  have b3 := bulk_mem (d := y3.1) (l := [y0.1, y1.1, y2.1, y3.1]) (by simp)
  have b4 := bulk_agg [y0.1, y1.1, y2.1, y3.1]
  obtain ⟨h0, h1⟩ := wf_u16 w1
  exact ⟨A, c, code, en, Ae, ce, E, Ab, cb, B, rfl, hC (by omega), hA, by omega, hE (by omega), hB (by omega), h0, h1⟩
end
end Go.Proofs.YtabeljpnmmfpgaaDoor
