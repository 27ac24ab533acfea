/-
  Arguments as the row hands them in: a slice of bytes, of cells, of banks.
-/
import Derived.Test.YtabeljpnmmfpgaaMemOwn
import Derived.Test.YtabeljpnmmfpgaaRows
import Derived.ProofKit
import Derived.OpenShut
import Derived.Deep.Slices
namespace Go.Proofs.Ytabeljpnmmfpgaa
open Go.RowKit Go.MapKept Go.ChangeShapes Go.WideShapes Go.ChangeAt
set_option linter.unusedVariables false
set_option linter.unusedSimpArgs false

/-! ### bulk -/
theorem bulk_one {H : Type} (d : DataW H) : 1 ≤ Rows.uptoBulk d := by
  cases d with
  | lit l => cases l <;> simp [Rows.uptoBulk]
  | nil => simp [Rows.uptoBulk]
  | ptr d => simp [Rows.uptoBulk]
  | slice a b => simp [Rows.uptoBulk]
  | agg a => simp [Rows.uptoBulk]
  | iface t d => simp [Rows.uptoBulk]
  | map a => simp [Rows.uptoBulk]
  | held a => simp [Rows.uptoBulk]
theorem bulk_length {H : Type} (l : List (DataW H)) : l.length ≤ Rows.uptoBulkAll l := by
  induction l with
  | nil => simp [Rows.uptoBulkAll]
  | cons x r ih => have := bulk_one x; simp only [Rows.uptoBulkAll, List.length_cons]; omega
theorem bulk_mem {H : Type} {d : DataW H} {l : List (DataW H)} (h : d ∈ l) : Rows.uptoBulk d ≤ Rows.uptoBulkAll l := by
  induction l with
  | nil => cases h
  | cons x r ih =>
    simp only [Rows.uptoBulkAll]
    rcases List.mem_cons.1 h with rfl | h
    · omega
    · have := ih h; omega
theorem bulk_slice {H : Type} (a b : List (DataW H)) : Rows.uptoBulkAll a ≤ Rows.uptoBulk (.slice a b) := by simp only [Rows.uptoBulk]; omega
theorem bulk_agg {H : Type} (a : List (DataW H)) : Rows.uptoBulkAll a ≤ Rows.uptoBulk (.agg a) := by simp only [Rows.uptoBulk]; omega

section
variable {H : Type} {enc : TypeId × Value → H} {P : Program} {w : World} {base : Nat} {spare : Nat → Bool} {held : Bool}

theorem cell_addr {w : World} {a : Addr} {v : Value} (h : w.cell? a = some v) : a = ⟨a.block, a.off, none⟩ := by
  obtain ⟨b, o, s⟩ := a
  cases s with
  | none => rfl
  | some x =>
    unfold World.cell? at h
    split at h
    · simp at h
    · cases h

theorem add_of_plain (b o i : Nat) : (⟨b, o, none⟩ : Addr).add i = ⟨b, o + i, none⟩ := by unfold Addr.add; split <;> simp_all

/-- A slice of one-cell integers. -/
theorem open_nums {t e : TypeId} {q : IntKind} {fuel : Nat} {v : Value} {x : DataW H × List MemPlace} (ht : P.underlying t = some (.slice e)) (he : P.underlying e = some (.int q)) (hc : P.cellsOf e = 1) (h : DataW.trod enc P w base spare held fuel t [v] = some x) :
    ∃ (l : List Int) (a : Option Addr) (c : Nat), v = .slice a l.length c ∧ (a = none → c = 0) ∧ (∀ n ∈ l, (Lit.int q n).wf = true) ∧ l.length ≤ Rows.uptoBulk x.1 ∧ l.length ≤ maxLen ∧
      (0 < l.length → ∃ b o, a = some ⟨b, o, none⟩ ∧ ∀ j, j < l.length → w.cell? ⟨b, o + j, none⟩ = some (.int q (l.getD j 0))) := by
  rcases Deep.open_slice1 ht hc h with ⟨h1, rfl⟩ | ⟨a, len, cap, m, n, V, D, Pl, h1, hb, hl, hm, hmm, rfl, hx⟩
  · simp only [List.cons.injEq, and_true] at h1
    subst h1
    exact ⟨[], none, 0, rfl, fun _ => rfl, by simp, by simp, by simp, fun h => absurd h (by decide)⟩
  · simp only [List.cons.injEq, and_true] at h1
    subst h1
    have hlm : len ≤ m := by rw [hmm]; split <;> omega
    have hv : ∀ i, i < len → ∃ k, V i = .int q k ∧ (Lit.int q k).wf = true := by
      intro i hi
      obtain ⟨k, hk, _, hw⟩ := DataW.trod_int he (hx i (by omega)).2
      simp only [List.cons.injEq, and_true] at hk
      exact ⟨k, hk, hw⟩
    obtain ⟨f, hf⟩ := Deep.choose_lt (α := Int) hv
    have hget : ∀ j, j < len → ((List.range len).map f).getD j 0 = f j := by
      intro j hj
      rw [List.getD_eq_getElem?_getD, List.getElem?_map, List.getElem?_range hj]; rfl
    refine ⟨(List.range len).map f, some a, cap, by simp, (fun e => by cases e), ?_, ?_, by simp; omega, fun h0 => ?_⟩
    · intro n hn
      obtain ⟨i, hi, rfl⟩ := List.mem_map.1 hn
      exact (hf i (List.mem_range.1 hi)).2
    · refine Nat.le_trans ?_ (bulk_slice _ _)
      refine Nat.le_trans ?_ (bulk_length _)
      simp
    · simp only [List.length_map, List.length_range] at h0
      have c0 := (hx 0 (by omega)).1
      have ha : a.add 0 = a := by simp [Addr.add]
      rw [ha] at c0
      have ha2 := cell_addr c0
      refine ⟨a.block, a.off, by rw [← ha2], fun j hj => ?_⟩
      simp only [List.length_map, List.length_range] at hj
      have cj := (hx j (by omega)).1
      rw [hget j hj, ← (hf j hj).1, ← cj]
      congr 1
      rw [show a.add j = (⟨a.block, a.off, none⟩ : Addr).add j by rw [← ha2], add_of_plain]

theorem wf_u8 {n : Int} (h : (Lit.int .u8 n).wf = true) : 0 ≤ n ∧ n < 256 := by
  simp [Lit.wf, IntKind.min, IntKind.max, IntKind.signed, IntKind.bits] at h; omega
theorem wf_u16 {n : Int} (h : (Lit.int .u16 n).wf = true) : 0 ≤ n ∧ n < 65536 := by
  simp [Lit.wf, IntKind.min, IntKind.max, IntKind.signed, IntKind.bits] at h; omega

theorem open_bytesIn {t e : TypeId} {fuel : Nat} {v : Value} {x : DataW H × List MemPlace} (ht : P.underlying t = some (.slice e)) (he : P.underlying e = some (.int .u8)) (hc : P.cellsOf e = 1) (h : DataW.trod enc P w base spare held fuel t [v] = some x) :
    ∃ l : List Int, BytesIn w v l ∧ IsBytes l ∧ l.length ≤ Rows.uptoBulk x.1 := by
  obtain ⟨l, a, c, h1, h2, h3, h4, _, h5⟩ := open_nums ht he hc h
  exact ⟨l, ⟨a, c, h1, h2, h5⟩, fun n hn => wf_u8 (h3 n hn), h4⟩

theorem open_cellsIn {t e : TypeId} {fuel : Nat} {v : Value} {x : DataW H × List MemPlace} (ht : P.underlying t = some (.slice e)) (he : P.underlying e = some (.int .u16)) (hc : P.cellsOf e = 1) (h : DataW.trod enc P w base spare held fuel t [v] = some x) :
    ∃ l : List Int, CellsIn w v l ∧ l.length ≤ Rows.uptoBulk x.1 := by
  obtain ⟨l, a, c, h1, h2, h3, h4, _, h5⟩ := open_nums ht he hc h
  exact ⟨l, ⟨fun n hn => wf_u16 (h3 n hn), a, c, h1, h5⟩, h4⟩

theorem cells?_two {w : World} {base : Nat} {a : Addr} {cs : List Value} (h : w.cells? base a 2 = some cs) : ∃ u v, cs = [u, v] ∧ w.cell? (a.add 0) = some u ∧ w.cell? (a.add 1) = some v := by
  unfold World.cells? at h
  split at h
  · simp only [List.range_succ, List.range_zero, List.nil_append, List.cons_append] at h
    cases h0 : w.cell? (a.add 0) with
    | none => simp [h0] at h
    | some u =>
      cases h1 : w.cell? (a.add 1) with
      | none => simp [h0, h1] at h
      | some v => simp [h0, h1] at h; exact ⟨u, v, h.symm, rfl, rfl⟩
  · cases h

/-- A slice of banks. -/
theorem open_banksIn {t b n s e : TypeId} {f0 f1 : Field} {fuel : Nat} {v : Value} {x : DataW H × List MemPlace} (ht : P.underlying t = some (.slice b)) (hb2 : P.cellsOf b = 2) (hs : P.underlying b = some (.struct #[f0, f1]))
    (o0 : f0.offset = 0) (o1 : f1.offset = 1) (t0 : f0.type = n) (t1 : f1.type = s) (hn : P.underlying n = some (.int .i64)) (hn1 : P.cellsOf n = 1) (hsl : P.underlying s = some (.slice e)) (hs1 : P.cellsOf s = 1) (he : P.underlying e = some (.int .u8)) (he1 : P.cellsOf e = 1)
    (h : DataW.trod enc P w base spare held fuel t [v] = some x) :
    ∃ (l : List (Int × List Int)) (dv : Nat → Value), BanksIn w v l dv ∧ l.length ≤ Rows.uptoBulk x.1 ∧ (∀ i, (l.getD i (0, [])).2.length ≤ Rows.uptoBulk x.1) := by
  rcases Deep.open_slice ht h with ⟨h1, rfl⟩ | ⟨a, len, cap, m, k, D, Pl, h1, hb, hl, hm, hmm, rfl, hx⟩
  · simp only [List.cons.injEq, and_true] at h1
    subst h1
    exact ⟨[], fun _ => .nilFunc, ⟨⟨none, 0, rfl, fun h => absurd h (by decide)⟩, fun i hi => by simp at hi, fun i hi => by simp at hi⟩, by simp, by simp⟩
  · simp only [List.cons.injEq, and_true] at h1
    subst h1
    have hlm : len ≤ m := by rw [hmm]; split <;> omega
    have hv : ∀ i, i < len → ∃ p : Int × Value × List Int, w.cell? (a.add (i * 2)) = some (.int .i64 p.1) ∧ w.cell? ((a.add (i * 2)).add 1) = some p.2.1 ∧ BytesIn w p.2.1 p.2.2 ∧ IsBytes p.2.2 ∧ p.2.2.length ≤ Rows.uptoBulk (D i) := by
      intro i hi
      obtain ⟨cs, hcs, htr⟩ := hx i (by omega)
      rw [hb2] at hcs
      obtain ⟨u0, u1, rfl, c0, c1⟩ := cells?_two hcs
      obtain ⟨y0, y1, n', hy, _, g0, g1⟩ := trod_struct2 hs htr
      rw [o0, t0, hn1] at g0
      rw [o1, t1, hs1] at g1
      obtain ⟨q, hq, _, _⟩ := DataW.trod_int hn g0
      obtain ⟨ds, d1, d2, d3⟩ := open_bytesIn hsl he he1 g1
      simp at hq
      subst hq
      have e0 : (a.add (i * 2)).add 0 = a.add (i * 2) := by simp [Addr.add]
      rw [e0] at c0
      have hD : D i = .agg [y0.1, y1.1] := (Prod.ext_iff.1 hy).1
      refine ⟨(q, u1, ds), c0, c1, d1, d2, Nat.le_trans d3 ?_⟩
      rw [hD]
      exact Nat.le_trans (bulk_mem (l := [y0.1, y1.1]) (by simp)) (bulk_agg _)
    obtain ⟨f, hf⟩ := Deep.choose_lt (α := Int × Value × List Int) hv
    have hget : ∀ j, j < len → ((List.range len).map fun i => ((f i).1, (f i).2.2)).getD j (0, []) = ((f j).1, (f j).2.2) := by
      intro j hj
      rw [List.getD_eq_getElem?_getD, List.getElem?_map, List.getElem?_range hj]; rfl
    have hlen : ((List.range len).map fun i => ((f i).1, (f i).2.2)).length = len := by simp
    have bsl : Rows.uptoBulkAll ((List.range len).map D) ≤ Rows.uptoBulk (.slice ((List.range len).map D) ((List.range (m - len)).map fun j => D (len + j))) := bulk_slice _ _
    refine ⟨(List.range len).map fun i => ((f i).1, (f i).2.2), fun i => (f i).2.1, ⟨⟨some a, cap, by rw [hlen], fun h0 => ?_⟩, fun i hi => ?_, fun i hi => ?_⟩, ?_, fun i => ?_⟩
    · rw [hlen] at h0
      have c0 := (hf 0 h0).1
      have ha : a.add (0 * 2) = a := by simp [Addr.add]
      rw [ha] at c0
      have ha2 := cell_addr c0
      refine ⟨a.block, a.off, by rw [← ha2], fun j hj => ?_⟩
      rw [hlen] at hj
      have cj := hf j hj
      rw [hget j hj]
      have ea : a.add (j * 2) = ⟨a.block, a.off + j * 2, none⟩ := by rw [show a.add (j * 2) = (⟨a.block, a.off, none⟩ : Addr).add (j * 2) by rw [← ha2], add_of_plain]
      rw [ea] at cj
      rw [add_of_plain] at cj
      exact ⟨cj.1, cj.2.1⟩
    · rw [hlen] at hi; rw [hget i hi]; exact (hf i hi).2.2.1
    · rw [hlen] at hi; rw [hget i hi]; exact (hf i hi).2.2.2.1
    · rw [hlen]
      refine Nat.le_trans ?_ bsl
      refine Nat.le_trans ?_ (bulk_length _)
      simp
    · by_cases hi : i < len
      · rw [hget i hi]
        refine Nat.le_trans (hf i hi).2.2.2.2 (Nat.le_trans (bulk_mem ?_) bsl)
        exact List.mem_map.2 ⟨i, List.mem_range.2 hi, rfl⟩
      · rw [List.getD_eq_getElem?_getD, List.getElem?_eq_none (by rw [hlen]; omega)]; simp
end
end Go.Proofs.Ytabeljpnmmfpgaa
