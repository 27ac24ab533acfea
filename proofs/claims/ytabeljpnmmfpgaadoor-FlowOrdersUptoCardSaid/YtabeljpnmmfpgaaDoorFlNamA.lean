/-
  FlowNames: its calls, at the rows they are made with.
-/
import Derived.Test.YtabeljpnmmfpgaaDoorFlFixed
import Derived.Test.YtabeljpnmmfpgaaDoorFlOrder
namespace Go.Proofs.YtabeljpnmmfpgaaDoor
open Go.RowKit Go.MapKept Go.Maps Go.Sort
set_option linter.unusedVariables false
set_option linter.unusedSimpArgs false

theorem fresh_cells (W : World) (l : List Value) (t : TypeId) (i : Nat) (hi : i < l.length) : (W.alloc (.cells l.toArray t)).cell? ⟨W.heap.size, i, none⟩ = some l[i] := by
  rw [cell_of (heap_alloc_at W _)]
  simp [hi]
/-- 'at' at a fresh row. -/
theorem at_fresh (W : World) (ht : Tab W) (cs : List Int) (n : Nat) (hn : n = cs.length) (hl : cs.length ≤ 1000) (hr : ∀ x ∈ cs, 0 ≤ x ∧ x < 65536) (r : Except (Int × Int) (List FW)) (hw : wordsFull 50 50 (codeOf cs) 128 [] [] = some r) :
    Calls Tryd.prog 25 #[.slice (some ⟨W.heap.size, 0, none⟩) n n] (W.alloc (.cells (cs.map (Value.int .u16)).toArray 23)) fun e w' => WordsPost (W.alloc (.cells (cs.map (Value.int .u16)).toArray 23)) r e w' := by
  refine at_any _ _ n n cs (ht.below (b_alloc (Below.refl _ _) _)) hn hl hr (fun i hi => ?_) 50 50 r hw
  rw [fresh_cells W _ _ i (by simpa using hi)]
  simp
theorem at_bad (W : World) (ht : Tab W) (cs : List Int) (n : Nat) (hn : n = cs.length) (hl : cs.length ≤ 1000) (hr : ∀ x ∈ cs, 0 ≤ x ∧ x < 65536) (z a : Int) (hw : wordsFull 50 50 (codeOf cs) 128 [] [] = some (.error (z, a))) :
    Calls Tryd.prog 25 #[.slice (some ⟨W.heap.size, 0, none⟩) n n] (W.alloc (.cells (cs.map (Value.int .u16)).toArray 23)) fun e w' => e = .returned (.tuple #[.slice none 0 0, .agg #[.int .i64 z, .int .u16 a]]) ∧ Below W.heap.size W w' :=
  (at_fresh W ht cs n hn hl hr _ hw).mono fun e w' h => ⟨h.2, b_then (b_alloc (Below.refl _ _) _) h.1⟩
theorem at_good (W : World) (ht : Tab W) (cs : List Int) (n : Nat) (hn : n = cs.length) (hl : cs.length ≤ 1000) (hr : ∀ x ∈ cs, 0 ≤ x ∧ x < 65536) (ws : List FW) (hw : wordsFull 50 50 (codeOf cs) 128 [] [] = some (.ok ws)) :
    Calls Tryd.prog 25 #[.slice (some ⟨W.heap.size, 0, none⟩) n n] (W.alloc (.cells (cs.map (Value.int .u16)).toArray 23)) fun e w' => (∃ v ts, e = .returned (.tuple #[v, .agg #[.int .i64 0, .int .u16 0]]) ∧ WordsAt w' (W.heap.size + 1) v ts ws) ∧ Below W.heap.size W w' :=
  (at_fresh W ht cs n hn hl hr _ hw).mono fun e w' h => by
    obtain ⟨h1, v, ts, h2, h3⟩ := h
    exact ⟨⟨v, ts, h2, by simpa using h3⟩, b_then (b_alloc (Below.refl _ _) _) h1⟩
/-- 'Words' at a fresh row. -/
theorem words_bad_fresh (W : World) (ht : Tab W) (cs : List Int) (n : Nat) (hn : n = cs.length) (hl : cs.length ≤ 1000) (hr : ∀ x ∈ cs, 0 ≤ x ∧ x < 256) (z a : Int) (hw : wordsFull 50 50 cs 0 [] [] = some (.error (z, a))) :
    Calls Tryd.prog 11 #[.agg #[.slice (some ⟨W.heap.size, 0, none⟩) n n, .int .u16 0, .slice none 0 0, .slice none 0 0]] (W.alloc (.cells (cs.map (Value.int .u8)).toArray 5)) fun e w' => e = .returned (.tuple #[.slice none 0 0, .agg #[.int .i64 z, .int .u16 a]]) ∧ Below W.heap.size W w' := by
  subst hn
  have hC : CodeIn (W.alloc (.cells (cs.map (Value.int .u8)).toArray 5)) (some ⟨W.heap.size, 0, none⟩) cs := by
    refine ⟨fun j => ?_, by omega, fun j hj => ⟨_, rfl, ?_⟩⟩
    · rw [List.getD_eq_getElem?_getD]
      by_cases hj : j < cs.length
      · rw [List.getElem?_eq_getElem hj]; exact hr _ (List.getElem_mem hj)
      · rw [List.getElem?_eq_none (by omega)]; decide
    · have e2 : (⟨W.heap.size, 0, none⟩ : Addr).add j = ⟨W.heap.size, j, none⟩ := by unfold Addr.add; split <;> simp_all
      rw [e2, fresh_cells W _ _ j (by simpa using hj), List.getD_eq_getElem?_getD, List.getElem?_eq_getElem hj]
      simp
  have b0 : Below W.heap.size W (W.alloc (.cells (cs.map (Value.int .u8)).toArray 5)) := b_alloc (Below.refl _ _) _
  exact (words_any _ _ cs.length cs 0 none 0 [] none 0 [] hC (ht.below b0) (EffsIn.nil _) (BanksIn.nil _) (by decide) (by decide) 50 50 _ hw).mono fun e w' h => ⟨h.2, b_then b0 h.1⟩

/-- A word's first instruction's and call's cells; the words as Order takes them. -/
theorem Reps.lreps {w : World} {base : Nat} : ∀ {ts : List WT} {ws : List FW}, Reps w base ts ws → (∀ x ∈ ws, x.calls.length ≤ 1000000000000) → LReps w ts (ws.map fun x => (x.at_, x.calls))
  | [], [], _, _ => ⟨rfl, fun i h1 _ => by simp at h1⟩
  | t :: ts, x :: ws, h, hl => by
    have ih := Reps.lreps h.2 (fun y hy => hl y (List.mem_cons_of_mem _ hy))
    refine ⟨by simp [ih.len], fun i h1 h2 => ?_⟩
    cases i with
    | zero =>
      have r : RowU w base (.slice t.ca t.cl t.cc) x.calls := h.1.rowc
      obtain ⟨A, c, e⟩ := h.1.rowc.slice
      have e' : Value.slice t.ca t.cl t.cc = .slice A x.calls.length c := e
      injection e' with e1 e2 e3
      refine ⟨h.1.at_, e2, ?_⟩
      exact r.atsIn (hl x List.mem_cons_self)
    | succ i => exact ih.rep i (by simpa using h1) (by simpa using h2)
theorem order_bad (w : World) (v : Value) (b0 : Nat) (ts : List WT) (xs : List (Int × List Int)) (hv : RowW w b0 v ts) (hr : LReps w ts xs) (hl : xs.length ≤ 20000) (k : Nat) (a : Int) (hw : ord k xs [] = some (.error a)) :
    Calls Tryd.prog 26 #[v] w fun e w' => e = .returned (.tuple #[.slice none 0 0, .agg #[.int .i64 163, .int .u16 a]]) ∧ Below w.heap.size w w' :=
  (order_some w v b0 ts xs hv hr hl k _ hw).mono fun e w' h => ⟨h.2, h.1⟩
theorem order_nil (w : World) : Calls Tryd.prog 26 #[.slice none 0 0] w fun e w' => (∃ v, e = .returned (.tuple #[v, .agg #[.int .i64 0, .int .u16 0]]) ∧ RowU w' w.heap.size v []) ∧ Below w.heap.size w w' :=
  (order_some w (.slice none 0 0) 0 [] [] (by unfold RowW; exact World.ownsRow_nil _ _ _ _) ⟨rfl, fun i h _ => by simp at h⟩ (by simp) 5 _ (show ord 5 [] [] = some (.ok []) from rfl)).mono fun e w' h => ⟨h.2, h.1⟩
end Go.Proofs.YtabeljpnmmfpgaaDoor
