/-
  slices.SortFunc of words: the shelf's contract laid at this program (a tool of the kit has written it).
  A row of words, sorted by their addresses.
-/
import Derived.Shelf.SlSortCmp.WholeK
import Derived.Shelf.SlGeneric
import Derived.Ground.SlsfProg
import Derived.Test.YtabeljpnmmfpgaaDoorProg
import Derived.Sort.OwnSorted
import Derived.Test.YtabeljpnmmfpgaaDoorFlSet
namespace Go.Proofs
open Go.Shelf
def Tryd.sortW_ren : Go.Shelf.Ren := ⟨fun | 6 => 34 | 15 => 58 | 14 => 57 | 28 => 79 | 29 => 80 | 20 => 71 | 21 => 72 | 22 => 73 | 23 => 74 | 24 => 75 | 25 => 76 | 26 => 77 | 27 => 78 | 46 => 83 | 47 => 84 | 48 => 85 | 49 => 86 | 50 => 87 | 57 => 97 | n => n, fun | 22 => 30 | 24 => 53 | 25 => 86 | 3 => 3 | 39 => 118 | 0 => 0 | 53 => 140 | 55 => 142 | 4 => 4 | 46 => 133 | 45 => 132 | 50 => 137 | 5 => 5 | 9 => 9 | 66 => 145 | 70 => 149 | 76 => 159 | 77 => 160 | n => n, fun | n => n⟩
theorem Tryd.sortW : Go.Proofs.SlLaysF0.n6 Tryd.prog Tryd.sortW_ren := {
  mixed := by kernel_rfl
  f6 := ⟨Tryd.f34.name, by decide, Tryd.func34.trans (congrArg some (by kernel_rfl))⟩
  f14 := ⟨Tryd.f57.name, by decide, Tryd.func57.trans (congrArg some (by kernel_rfl))⟩
  f15 := Tryd.func58.trans (congrArg some (by kernel_rfl))
  f20 := ⟨Tryd.f71.name, by decide, Tryd.func71.trans (congrArg some (by kernel_rfl))⟩
  f21 := ⟨Tryd.f72.name, by decide, Tryd.func72.trans (congrArg some (by kernel_rfl))⟩
  f22 := ⟨Tryd.f73.name, by decide, Tryd.func73.trans (congrArg some (by kernel_rfl))⟩
  f23 := ⟨Tryd.f74.name, by decide, Tryd.func74.trans (congrArg some (by kernel_rfl))⟩
  f24 := ⟨Tryd.f75.name, by decide, Tryd.func75.trans (congrArg some (by kernel_rfl))⟩
  f25 := ⟨Tryd.f76.name, by decide, Tryd.func76.trans (congrArg some (by kernel_rfl))⟩
  f26 := ⟨Tryd.f77.name, by decide, Tryd.func77.trans (congrArg some (by kernel_rfl))⟩
  f27 := ⟨Tryd.f78.name, by decide, Tryd.func78.trans (congrArg some (by kernel_rfl))⟩
  f28 := Tryd.func79.trans (congrArg some (by kernel_rfl))
  f29 := Tryd.func80.trans (congrArg some (by kernel_rfl))
  f46 := ⟨Tryd.f83.name, by decide, Tryd.func83.trans (congrArg some (by kernel_rfl))⟩
  f47 := Tryd.func84.trans (congrArg some (by kernel_rfl))
  f48 := Tryd.func85.trans (congrArg some (by kernel_rfl))
  f49 := ⟨Tryd.f86.name, by decide, Tryd.func86.trans (congrArg some (by kernel_rfl))⟩
  f50 := ⟨Tryd.f87.name, by decide, Tryd.func87.trans (congrArg some (by kernel_rfl))⟩
  f57 := ⟨Tryd.f97.name, by decide, Tryd.func97.trans (congrArg some (by kernel_rfl))⟩
  t0 := Tryd.underlying0
  a0 := Tryd.isAgg0
  z0 := Tryd.sizeOf0
  v0 := Tryd.zeroValue0
  t3 := Tryd.underlying3
  a3 := Tryd.isAgg3
  z3 := Tryd.sizeOf3
  v3 := Tryd.zeroValue3
  t4 := Tryd.underlying4
  a4 := Tryd.isAgg4
  z4 := Tryd.sizeOf4
  v4 := Tryd.zeroValue4
  t5 := Tryd.underlying5
  a5 := Tryd.isAgg5
  z5 := Tryd.sizeOf5
  v5 := Tryd.zeroValue5
  t9 := Tryd.underlying9
  a9 := Tryd.isAgg9
  z9 := Tryd.sizeOf9
  v9 := Tryd.zeroValue9
  t22 := Tryd.underlying30
  a22 := Tryd.isAgg30
  z22 := Tryd.sizeOf30
  v22 := Tryd.zeroValue30
  t25 := Tryd.underlying86
  a25 := Tryd.isAgg86
  z25 := Tryd.sizeOf86
  v25 := Tryd.zeroValue86
  t39 := Tryd.underlying118
  a39 := Tryd.isAgg118
  z39 := Tryd.sizeOf118
  v39 := Tryd.zeroValue118
  t45 := Tryd.underlying132
  a45 := Tryd.isAgg132
  z45 := Tryd.sizeOf132
  v45 := Tryd.zeroValue132
  t46 := Tryd.underlying133
  a46 := Tryd.isAgg133
  z46 := Tryd.sizeOf133
  v46 := Tryd.zeroValue133
  t50 := Tryd.underlying137
  a50 := Tryd.isAgg137
  z50 := Tryd.sizeOf137
  v50 := Tryd.zeroValue137
  t53 := Tryd.underlying140
  a53 := Tryd.isAgg140
  z53 := Tryd.sizeOf140
  v53 := Tryd.zeroValue140
  t55 := Tryd.underlying142
  a55 := Tryd.isAgg142
  z55 := Tryd.sizeOf142
  v55 := Tryd.zeroValue142
  t66 := Tryd.underlying145
  a66 := Tryd.isAgg145
  z66 := Tryd.sizeOf145
  v66 := Tryd.zeroValue145
  t70 := Tryd.underlying149
  a70 := Tryd.isAgg149
  z70 := Tryd.sizeOf149
  v70 := Tryd.zeroValue149
  t76 := Tryd.underlying159
  a76 := Tryd.isAgg159
  z76 := Tryd.sizeOf159
  v76 := Tryd.zeroValue159
  t77 := Tryd.underlying160
  a77 := Tryd.isAgg160
  z77 := Tryd.sizeOf160
  v77 := Tryd.zeroValue160 }
end Go.Proofs

namespace Go.Proofs.YtabeljpnmmfpgaaDoor
open Go.RowKit Go.MapKept Go.Sort Go.Shelf Go.Proofs
set_option linter.unusedVariables false
set_option linter.unusedSimpArgs false

/-- A word as it lies: its address, its two lists. -/
structure WT where
  at_ : Fin 65536
  ia : Option Addr
  il : Nat
  ic : Nat
  ca : Option Addr
  cl : Nat
  cc : Nat
instance : Inhabited WT := ⟨⟨0, none, 0, 0, none, 0, 0⟩⟩
def WT.vi (x : WT) : Value := .slice x.ia x.il x.ic
def WT.vc (x : WT) : Value := .slice x.ca x.cl x.cc
def WT.cells (x : WT) : List Value := [.int .u16 (x.at_.val : Int), x.vi, x.vc]
/-- A row of words of the call's own. -/
def RowW (w : World) (base : Nat) (v : Value) (l : List WT) : Prop := w.ownsRow base 53 3 v l.length (l.flatMap WT.cells)

theorem flat3 : ∀ (l : List WT) (i k : Nat) (hi : i < l.length), k < 3 → (l.flatMap WT.cells)[i * 3 + k]? = (l[i]).cells[k]?
  | x :: l, 0, k, _, hk => by
    rw [List.flatMap_cons, List.getElem?_append_left (by simp [WT.cells]; omega)]
    simp
  | x :: l, i + 1, k, hi, hk => by
    have h3 : x.cells.length = 3 := rfl
    rw [List.flatMap_cons, List.getElem?_append_right (by rw [h3]; omega), h3, show (i + 1) * 3 + k - 3 = i * 3 + k by omega]
    exact flat3 l i k (by simpa using hi) hk
theorem flat3_len : ∀ l : List WT, (l.flatMap WT.cells).length = l.length * 3
  | [] => rfl
  | x :: l => by
    have h3 : x.cells.length = 3 := rfl
    rw [List.flatMap_cons, List.length_append, h3, flat3_len l, List.length_cons]; omega
theorem flatK_list (l : List WT) : (flatK WT.cells 3 l.toArray).toList = l.flatMap WT.cells := by
  apply List.ext_getElem?
  intro t
  by_cases ht : t < l.length * 3
  · have h1 : t / 3 < l.length := by omega
    have h2 := flat3 l (t / 3) (t % 3) h1 (by omega)
    have ht2 : t < (flatK WT.cells 3 l.toArray).size := by simpa using ht
    have h3 := get_flatK WT.cells 3 l.toArray t (by simpa using ht)
    rw [getElem!_pos _ t ht2] at h3
    rw [show t / 3 * 3 + t % 3 = t by omega] at h2
    rw [h2, Array.getElem?_toList, Array.getElem?_eq_getElem ht2, h3]
    have h4 : (l.toArray)[t / 3]! = l[t / 3] := by simp [h1]
    rw [h4]
    have h5 : t % 3 < (l[t / 3]).cells.length := by show t % 3 < 3; omega
    rw [List.getElem?_eq_getElem h5, getElem!_pos (l[t / 3]).cells (t % 3) h5]
  · rw [List.getElem?_eq_none (by rw [Array.length_toList, size_flatK]; simpa using ht), List.getElem?_eq_none (by rw [flat3_len]; omega)]

theorem rowW_holds {w : World} {base g n c : Nat} {l : List WT} (h : RowW w base (.slice (some ⟨g, 0, none⟩) n c) l) : HoldsK WT.cells 3 w g 0 l.toArray := by
  have h' : w.ownsRow base 53 3 (.slice (some ⟨g, 0, none⟩) n c) l.length (l.flatMap WT.cells) := h
  rcases h'.2 with ⟨e, _⟩ | ⟨g', cap, cur, e, hg, hh, h3, h4, h5, hc⟩
  · cases e
  · cases e
    intro j hj
    have hj' : j < l.length * 3 := by simpa using hj
    refine ⟨?_, by simp [World.frozen?, hh]⟩
    rw [Nat.zero_add, cell_of hh]
    have e1 : (cur.toList.take (l.length * 3))[j]? = (flatK WT.cells 3 l.toArray).toList[j]? := by rw [hc, flatK_list]
    rw [List.getElem?_take_of_lt hj', Array.getElem?_toList, Array.getElem?_toList, Array.getElem?_eq_getElem hj] at e1
    rw [e1]
    show some _ = some (id _)
    rw [getElem!_pos _ j hj]; rfl

theorem take_putCells (cur : Array Value) (F : Array Value) (h : F.size ≤ cur.size) : (putCells id 0 F cur).toList.take F.size = F.toList := by
  apply List.ext_getElem?
  intro j
  by_cases hj : j < F.size
  · rw [List.getElem?_take_of_lt hj, Array.getElem?_toList, Array.getElem?_toList]
    simp [putCells, hj, show j < cur.size by omega]
  · rw [List.getElem?_take_eq_none (by omega), List.getElem?_eq_none (by simp; omega)]

theorem heap_sortedK {w : World} {g n : Nat} {os : Array Obj} {cur : Array Value} {e : TypeId} {fr : Nat × Nat} (d : Array WT) (hb : w.heap[g]? = some (.cells cur e fr)) :
    (sortWorldK WT.cells 3 w g 0 n d os).heap[g]? = some (.cells (putCells id 0 (flatK WT.cells 3 d) cur) e fr) := by
  have hg : g < w.heap.size := (Array.getElem?_eq_some_iff.1 hb).1
  unfold sortWorldK putRowK
  rw [heap_grow_old _ _ (by simpa using hg)]
  simp [putRow, mapBlock, Sort.ahead, Array.getElem?_modify, hb, onCells]
theorem upd_sortedK {w : World} {g n : Nat} {os : Array Obj} (d : Array WT) : Upd w (sortWorldK WT.cells 3 w g 0 n d os) (fun i => i = g) := by
  refine ⟨rfl, rfl, rfl, by simp [sortWorldK, putRowK], fun k hk hne => ?_⟩
  unfold sortWorldK putRowK
  rw [heap_grow_old _ _ (by simpa using hk)]
  have : g ≠ k := fun e => hne e.symm
  simp [putRow, mapBlock, Sort.ahead, Array.getElem?_modify, this]

/-! ### the comparison -/
theorem cmpW_any (x y : WT) (W : World) : Calls Tryd.prog 35 #[.agg x.cells.toArray, .agg y.cells.toArray] W fun e w' => e = .returned (.int .i64 ((x.at_.val : Int) - (y.at_.val : Int))) ∧ ∃ q os', w' = grow (W.drewN q) os' := by
  have h1 := x.at_.isLt
  have h2 := y.at_.isLt
  show Calls Tryd.prog 35 #[.agg #[.int .u16 (x.at_.val : Int), x.vi, x.vc], .agg #[.int .u16 (y.at_.val : Int), y.vi, y.vc]] W _
  generalize x.vi = a1
  generalize x.vc = a2
  generalize y.vi = b1
  generalize y.vc = b2
  generalize x.at_.val = p at *
  generalize y.at_.val = q at *
  clear x y
  go_enter Tryd.func35, Tryd.ntmps35
  go_wp2
  go_ret
  exact ⟨by first | rfl | simp, 0, _, by rw [alloc_eq_grow, alloc_eq_grow, grow_grow]; rfl⟩
theorem ltW (x y : WT) : ltOf (fun x y : WT => (x.at_.val : Int) - (y.at_.val : Int)) x y = decide (x.at_.val < y.at_.val) := by
  unfold ltOf
  by_cases h : x.at_.val < y.at_.val
  · simp [h]; omega
  · simp [h]; omega
theorem swoW : SWO (ltOf (fun x y : WT => (x.at_.val : Int) - (y.at_.val : Int))) where
  irrefl x := by rw [ltW]; simp
  trans x y z h1 h2 := by rw [ltW] at *; simp at *; omega
  ntrans x y z h1 h2 := by rw [ltW] at *; simp at *; omega

/-! ### the sort -/
/-- What the sort leaves: the same words by their addresses. -/
def SortedW (w : World) (base : Nat) (v : Value) (l : List WT) (w' : World) : Prop := ∃ l' : List WT, l'.Perm l ∧ l'.Pairwise (fun a b => a.at_.val ≤ b.at_.val) ∧ RowW w' base v l' ∧ Upd w w' (fun i => some i = v.ownBlock)
theorem sorted_pairwise (d : Array WT) (h : SortedIn (ltOf (fun x y : WT => (x.at_.val : Int) - (y.at_.val : Int))) 0 d.size d) : d.toList.Pairwise (fun a b => a.at_.val ≤ b.at_.val) := by
  rw [List.pairwise_iff_getElem]
  intro i j hi hj hij
  have h1 := h i j (Nat.zero_le _) hij (by simpa using hj)
  rw [ltW] at h1
  have hi' : i < d.size := by simpa using hi
  have hj' : j < d.size := by simpa using hj
  rw [getElem!_pos d i hi', getElem!_pos d j hj'] at h1
  simp at h1
  simpa using h1
theorem perm_of_in (d d' : Array WT) (h : PermIn 0 d.size d d') : d'.toList.Perm d.toList ∧ d'.size = d.size := by
  obtain ⟨h1, _, h3⟩ := h
  refine ⟨?_, h1⟩
  have e1 : d'.extract 0 d.size = d' := by rw [← h1]; simp
  have e2 : d.extract 0 d.size = d := by simp
  rwa [e1, e2] at h3

set_option maxRecDepth 100000 in
set_option maxHeartbeats 4000000 in
theorem sortW_any (w : World) (base g n c : Nat) (l : List WT) (h : RowW w base (.slice (some ⟨g, 0, none⟩) n c) l) (hl : l.length ≤ 60000) :
    Calls Tryd.prog 34 #[.slice (some ⟨g, 0, none⟩) n c, .func (.func 35) #[] #[]] w fun e w' => e = .returned (.tuple #[]) ∧ SortedW w base (.slice (some ⟨g, 0, none⟩) n c) l w' := by
  have hK := rowW_holds h
  have h' : w.ownsRow base 53 3 (.slice (some ⟨g, 0, none⟩) n c) l.length (l.flatMap WT.cells) := h
  rcases h'.2 with ⟨e, _⟩ | ⟨g', cap, cur, e, hg, hh, h3, h4, h5, hc⟩
  · cases e
  · cases e
    have eg : ∀ args w, (callFunc 35 args).run Tryd.prog w = .ok (.enter 35 args) w := enters_of Tryd.func35 (by kernel_rfl) rfl
    have hcon := AnyQ.slices_SortFunc Tryd.sortW 3 Tryd.isAgg53 Tryd.sizeOf53 WT.cells (fun _ => rfl) (fun x v hv => by simp [WT.cells, WT.vi, WT.vc] at hv; rcases hv with rfl | rfl | rfl <;> rfl) (fun x y : WT => (x.at_.val : Int) - (y.at_.val : Int)) swoW 35 #[] g 0 c l.toArray w eg (fun _ _ _ _ x y => cmpW_any x y _) hK (heap_lt hh) (by simp; omega)
    change Calls Tryd.prog 34 _ _ _ at hcon
    have e1 : (l.toArray).size = l.length := by simp
    rw [e1] at hcon
    refine hcon.mono ?_
    rintro e w' ⟨rfl, d', n, os, hp, hs, rfl⟩
    obtain ⟨p1, p2⟩ := perm_of_in l.toArray d' hp
    rw [e1] at p2
    have ps := sorted_pairwise d' (by rw [p2]; exact hs)
    have el : d'.toList.length = l.length := by simp [p2]
    refine ⟨rfl, d'.toList, p1, ps, ?_, (upd_sortedK d').mono (fun i _ e => by rw [e]; rfl)⟩
    have ef : (flatK WT.cells 3 d').toList = d'.toList.flatMap WT.cells := by
      have := flatK_list d'.toList
      simpa using this
    refine ⟨by rw [flat3_len], .inr ⟨g, c, _, by rw [el], hg, heap_sortedK d' hh, by omega, h4, by simp [putCells, h5], ?_⟩⟩
    have sz : (flatK WT.cells 3 d').size = d'.toList.length * 3 := by simp
    rw [← sz, ← ef]
    exact take_putCells cur _ (by rw [sz, el, h5]; omega)
end Go.Proofs.YtabeljpnmmfpgaaDoor
