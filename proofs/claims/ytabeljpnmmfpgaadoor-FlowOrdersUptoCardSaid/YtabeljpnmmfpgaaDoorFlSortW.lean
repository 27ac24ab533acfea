/-
  A row of words, sorted by their addresses.
-/
import Derived.Sort.OwnSorted
import Derived.Test.YtabeljpnmmfpgaaDoorFlSortF
import Derived.Test.YtabeljpnmmfpgaaDoorFlSet
namespace Go.Proofs.YtabeljpnmmfpgaaDoor
open Go.RowKit Go.MapKept Go.Sort Go.Shelf Go.Proofs
set_option linter.unusedVariables false
set_option linter.unusedSimpArgs false

/-- A word as it lies: its address, its two lists. -/
structure WT where
  at_ : Fin 65536
  ia : Option Addr
  il : Nat
  ic : Nat
  ca : Option Addr
  cl : Nat
  cc : Nat
instance : Inhabited WT := ⟨⟨0, none, 0, 0, none, 0, 0⟩⟩
def WT.vi (x : WT) : Value := .slice x.ia x.il x.ic
def WT.vc (x : WT) : Value := .slice x.ca x.cl x.cc
def WT.cells (x : WT) : List Value := [.int .u16 (x.at_.val : Int), x.vi, x.vc]
/-- A row of words of the call's own. -/
def RowW (w : World) (base : Nat) (v : Value) (l : List WT) : Prop := w.ownsRow base 53 3 v l.length (l.flatMap WT.cells)

theorem flat3 : ∀ (l : List WT) (i k : Nat) (hi : i < l.length), k < 3 → (l.flatMap WT.cells)[i * 3 + k]? = (l[i]).cells[k]?
  | x :: l, 0, k, _, hk => by
    rw [List.flatMap_cons, List.getElem?_append_left (by simp [WT.cells]; omega)]
    simp
  | x :: l, i + 1, k, hi, hk => by
    have h3 : x.cells.length = 3 := rfl
    rw [List.flatMap_cons, List.getElem?_append_right (by rw [h3]; omega), h3, show (i + 1) * 3 + k - 3 = i * 3 + k by omega]
    exact flat3 l i k (by simpa using hi) hk
theorem flat3_len : ∀ l : List WT, (l.flatMap WT.cells).length = l.length * 3
  | [] => rfl
  | x :: l => by
    have h3 : x.cells.length = 3 := rfl
    rw [List.flatMap_cons, List.length_append, h3, flat3_len l, List.length_cons]; omega
theorem flatK_list (l : List WT) : (flatK WT.cells 3 l.toArray).toList = l.flatMap WT.cells := by
  apply List.ext_getElem?
  intro t
  by_cases ht : t < l.length * 3
  · have h1 : t / 3 < l.length := by omega
    have h2 := flat3 l (t / 3) (t % 3) h1 (by omega)
    have ht2 : t < (flatK WT.cells 3 l.toArray).size := by simpa using ht
    have h3 := get_flatK WT.cells 3 l.toArray t (by simpa using ht)
    rw [getElem!_pos _ t ht2] at h3
    rw [show t / 3 * 3 + t % 3 = t by omega] at h2
    rw [h2, Array.getElem?_toList, Array.getElem?_eq_getElem ht2, h3]
    have h4 : (l.toArray)[t / 3]! = l[t / 3] := by simp [h1]
    rw [h4]
    have h5 : t % 3 < (l[t / 3]).cells.length := by show t % 3 < 3; omega
    rw [List.getElem?_eq_getElem h5, getElem!_pos (l[t / 3]).cells (t % 3) h5]
  · rw [List.getElem?_eq_none (by rw [Array.length_toList, size_flatK]; simpa using ht), List.getElem?_eq_none (by rw [flat3_len]; omega)]

theorem rowW_holds {w : World} {base g n c : Nat} {l : List WT} (h : RowW w base (.slice (some ⟨g, 0, none⟩) n c) l) : HoldsK WT.cells 3 w g 0 l.toArray := by
  have h' : w.ownsRow base 53 3 (.slice (some ⟨g, 0, none⟩) n c) l.length (l.flatMap WT.cells) := h
  rcases h'.2 with ⟨e, _⟩ | ⟨g', cap, cur, e, hg, hh, h3, h4, h5, hc⟩
  · cases e
  · cases e
    intro j hj
    have hj' : j < l.length * 3 := by simpa using hj
    refine ⟨?_, by simp [World.frozen?, hh]⟩
    rw [Nat.zero_add, cell_of hh]
    have e1 : (cur.toList.take (l.length * 3))[j]? = (flatK WT.cells 3 l.toArray).toList[j]? := by rw [hc, flatK_list]
    rw [List.getElem?_take_of_lt hj', Array.getElem?_toList, Array.getElem?_toList, Array.getElem?_eq_getElem hj] at e1
    rw [e1]
    show some _ = some (id _)
    rw [getElem!_pos _ j hj]; rfl

theorem take_putCells (cur : Array Value) (F : Array Value) (h : F.size ≤ cur.size) : (putCells id 0 F cur).toList.take F.size = F.toList := by
  apply List.ext_getElem?
  intro j
  by_cases hj : j < F.size
  · rw [List.getElem?_take_of_lt hj, Array.getElem?_toList, Array.getElem?_toList]
    simp [putCells, hj, show j < cur.size by omega]
  · rw [List.getElem?_take_eq_none (by omega), List.getElem?_eq_none (by simp; omega)]

theorem heap_sortedK {w : World} {g n : Nat} {os : Array Obj} {cur : Array Value} {e : TypeId} {fr : Nat × Nat} (d : Array WT) (hb : w.heap[g]? = some (.cells cur e fr)) :
    (sortWorldK WT.cells 3 w g 0 n d os).heap[g]? = some (.cells (putCells id 0 (flatK WT.cells 3 d) cur) e fr) := by
  have hg : g < w.heap.size := (Array.getElem?_eq_some_iff.1 hb).1
  unfold sortWorldK putRowK
  rw [heap_grow_old _ _ (by simpa using hg)]
  simp [putRow, mapBlock, Sort.ahead, Array.getElem?_modify, hb, onCells]
theorem upd_sortedK {w : World} {g n : Nat} {os : Array Obj} (d : Array WT) : Upd w (sortWorldK WT.cells 3 w g 0 n d os) (fun i => i = g) := by
  refine ⟨rfl, rfl, rfl, by simp [sortWorldK, putRowK], fun k hk hne => ?_⟩
  unfold sortWorldK putRowK
  rw [heap_grow_old _ _ (by simpa using hk)]
  have : g ≠ k := fun e => hne e.symm
  simp [putRow, mapBlock, Sort.ahead, Array.getElem?_modify, this]

/-! ### the comparison -/
theorem cmpW_any (x y : WT) (W : World) : Calls Tryd.prog 35 #[.agg x.cells.toArray, .agg y.cells.toArray] W fun e w' => e = .returned (.int .i64 ((x.at_.val : Int) - (y.at_.val : Int))) ∧ ∃ q os', w' = grow (W.drewN q) os' := by
  have h1 := x.at_.isLt
  have h2 := y.at_.isLt
  show Calls Tryd.prog 35 #[.agg #[.int .u16 (x.at_.val : Int), x.vi, x.vc], .agg #[.int .u16 (y.at_.val : Int), y.vi, y.vc]] W _
  generalize x.vi = a1
  generalize x.vc = a2
  generalize y.vi = b1
  generalize y.vc = b2
  generalize x.at_.val = p at *
  generalize y.at_.val = q at *
  clear x y
  go_enter Tryd.func35, Tryd.ntmps35
  go_wp2
  go_ret
  exact ⟨by first | rfl | simp, 0, _, by rw [alloc_eq_grow, alloc_eq_grow, grow_grow]; rfl⟩
theorem ltW (x y : WT) : ltOf (fun x y : WT => (x.at_.val : Int) - (y.at_.val : Int)) x y = decide (x.at_.val < y.at_.val) := by
  unfold ltOf
  by_cases h : x.at_.val < y.at_.val
  · simp [h]; omega
  · simp [h]; omega
theorem swoW : SWO (ltOf (fun x y : WT => (x.at_.val : Int) - (y.at_.val : Int))) where
  irrefl x := by rw [ltW]; simp
  trans x y z h1 h2 := by rw [ltW] at *; simp at *; omega
  ntrans x y z h1 h2 := by rw [ltW] at *; simp at *; omega

/-! ### the sort -/
/-- What the sort leaves: the same words by their addresses. -/
def SortedW (w : World) (base : Nat) (v : Value) (l : List WT) (w' : World) : Prop := ∃ l' : List WT, l'.Perm l ∧ l'.Pairwise (fun a b => a.at_.val ≤ b.at_.val) ∧ RowW w' base v l' ∧ Upd w w' (fun i => some i = v.ownBlock)
theorem sorted_pairwise (d : Array WT) (h : SortedIn (ltOf (fun x y : WT => (x.at_.val : Int) - (y.at_.val : Int))) 0 d.size d) : d.toList.Pairwise (fun a b => a.at_.val ≤ b.at_.val) := by
  rw [List.pairwise_iff_getElem]
  intro i j hi hj hij
  have h1 := h i j (Nat.zero_le _) hij (by simpa using hj)
  rw [ltW] at h1
  have hi' : i < d.size := by simpa using hi
  have hj' : j < d.size := by simpa using hj
  rw [getElem!_pos d i hi', getElem!_pos d j hj'] at h1
  simp at h1
  simpa using h1
theorem perm_of_in (d d' : Array WT) (h : PermIn 0 d.size d d') : d'.toList.Perm d.toList ∧ d'.size = d.size := by
  obtain ⟨h1, _, h3⟩ := h
  refine ⟨?_, h1⟩
  have e1 : d'.extract 0 d.size = d' := by rw [← h1]; simp
  have e2 : d.extract 0 d.size = d := by simp
  rwa [e1, e2] at h3

set_option maxRecDepth 100000 in
set_option maxHeartbeats 4000000 in
theorem sortW_any (w : World) (base g n c : Nat) (l : List WT) (h : RowW w base (.slice (some ⟨g, 0, none⟩) n c) l) (hl : l.length ≤ 60000) :
    Calls Tryd.prog 34 #[.slice (some ⟨g, 0, none⟩) n c, .func (.func 35) #[] #[]] w fun e w' => e = .returned (.tuple #[]) ∧ SortedW w base (.slice (some ⟨g, 0, none⟩) n c) l w' := by
  have hK := rowW_holds h
  have h' : w.ownsRow base 53 3 (.slice (some ⟨g, 0, none⟩) n c) l.length (l.flatMap WT.cells) := h
  rcases h'.2 with ⟨e, _⟩ | ⟨g', cap, cur, e, hg, hh, h3, h4, h5, hc⟩
  · cases e
  · cases e
    have eg : ∀ args w, (callFunc 35 args).run Tryd.prog w = .ok (.enter 35 args) w := enters_of Tryd.func35 (by kernel_rfl) rfl
    have hcon := AnyQ.slices_SortFunc Tryd.sortW 3 Tryd.isAgg53 Tryd.sizeOf53 WT.cells (fun _ => rfl) (fun x v hv => by simp [WT.cells, WT.vi, WT.vc] at hv; rcases hv with rfl | rfl | rfl <;> rfl) (fun x y : WT => (x.at_.val : Int) - (y.at_.val : Int)) swoW 35 #[] g 0 c l.toArray w eg (fun _ _ _ _ x y => cmpW_any x y _) hK (heap_lt hh) (by simp; omega)
    change Calls Tryd.prog 34 _ _ _ at hcon
    have e1 : (l.toArray).size = l.length := by simp
    rw [e1] at hcon
    refine hcon.mono ?_
    rintro e w' ⟨rfl, d', n, os, hp, hs, rfl⟩
    obtain ⟨p1, p2⟩ := perm_of_in l.toArray d' hp
    rw [e1] at p2
    have ps := sorted_pairwise d' (by rw [p2]; exact hs)
    have el : d'.toList.length = l.length := by simp [p2]
    refine ⟨rfl, d'.toList, p1, ps, ?_, (upd_sortedK d').mono (fun i _ e => by rw [e]; rfl)⟩
    have ef : (flatK WT.cells 3 d').toList = d'.toList.flatMap WT.cells := by
      have := flatK_list d'.toList
      simpa using this
    refine ⟨by rw [flat3_len], .inr ⟨g, c, _, by rw [el], hg, heap_sortedK d' hh, by omega, h4, by simp [putCells, h5], ?_⟩⟩
    have sz : (flatK WT.cells 3 d').size = d'.toList.length * 3 := by simp
    rw [← sz, ← ef]
    exact take_putCells cur _ (by rw [sz, el, h5]; omega)
end Go.Proofs.YtabeljpnmmfpgaaDoor
