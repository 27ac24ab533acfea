/-
  FlowBehind: what its calls answer, as the walk wants it.
-/
import Derived.Test.YtabeljpnmmfpgaaDoorFlBehA
namespace Go.Proofs.YtabeljpnmmfpgaaDoor
open Go.RowKit Go.MapKept Go.Maps Go.Sort
set_option linter.unusedVariables false
set_option linter.unusedSimpArgs false

/-- A verdict as it lies. -/
def VdAt (W : World) (b : Nat) (z a : Int) : Prop := W.heap[b]? = some (.cells #[.int .i64 z, .int .u16 a] 33 (0, 0))
theorem VdAt.fresh (W : World) (z a : Int) : VdAt (W.alloc (.cells #[.int .i64 z, .int .u16 a] 33)) W.heap.size z a := heap_alloc_at W _
theorem VdAt.below {W W' : World} {b : Nat} {z a : Int} (h : VdAt W b z a) (hb : Below W.heap.size W W') : VdAt W' b z a := (hb.block b (heap_lt h)).trans h
theorem VdAt.c0 {W : World} {b : Nat} {z a : Int} (h : VdAt W b z a) : W.cell? ⟨b, 0, none⟩ = some (.int .i64 z) := by rw [cell_of h]; rfl
theorem VdAt.c1 {W : World} {b : Nat} {z a : Int} (h : VdAt W b z a) : W.cell? ⟨b, 1, none⟩ = some (.int .u16 a) := by rw [cell_of h]; rfl
theorem FWin.c0 {w : World} {A : Option Addr} {l : List FW} (h : FWin w A l) {k : Nat} (hk : k < l.length) : ∃ b off, A = some ⟨b, off, none⟩ ∧ w.cell? ⟨b, off + k * 3, none⟩ = some (.int .u16 (l[k]).at_) := by
  obtain ⟨b, off, ia, ic, ca, cc, e, q⟩ := h k hk
  exact ⟨b, off, e, q.c0⟩
/-- The words as Order takes them. -/
def ordArg (l : List FW) : List (Int × List Int) := l.map fun x => (x.at_, x.calls)
theorem conv_row {w W : World} {g cap : Nat} {ts : List WT} {l : List FW} (tl : ts.length = l.length)
    (h : W.ownsRow w.heap.size 53 3 (.slice (some ⟨g, 0, none⟩) (l.length + 1) cap) (l.length + 1) (ts.flatMap WT.cells ++ [.int .u16 7777, .slice none 0 0, .slice none 0 0])) :
    RowW W w.heap.size (.slice (some ⟨g, 0, none⟩) l.length cap) ts := by
  have := ownsRow_cut h (by rw [flat3_len, tl])
  unfold RowW
  rw [tl]; exact this
theorem conv_lreps {w W : World} {ts : List WT} {l : List FW} (tl : ts.length = l.length) (cv : ∀ (i : Nat) (h1 : i < ts.length) (h2 : i < l.length), CvW W w.heap.size ts[i] l[i]) (hs : ∀ x ∈ l, x.calls.length ≤ 2000000) :
    LReps W ts (ordArg l) := by
  refine ⟨by simp [ordArg, tl], fun i h1 h2 => ?_⟩
  have h3 : i < l.length := by rw [← tl]; exact h1
  have q := cv i h1 h3
  have r := q.wrep.rowc
  have e : (ordArg l)[i] = ((l[i]).at_, (l[i]).calls) := by simp [ordArg]
  rw [e]
  exact ⟨q.at_, q.cl, RowU.atsIn (by unfold RowU WT.vc at r; exact r) (by have := hs _ (List.getElem_mem h3); show (l[i]).calls.length ≤ _; omega)⟩
theorem bare_lreps (W : World) (ts : List WT) (l : List FW) (tl : ts.length = l.length) (ha : ∀ (i : Nat) (h1 : i < ts.length) (h2 : i < l.length), ((ts[i]).at_.val : Int) = (l[i]).at_) :
    LReps W (ts.map WT.bare) ((l.map FW.at_).map fun a => (a, [])) := by
  refine ⟨by simp [tl], fun i h1 h2 => ?_⟩
  have h3 : i < l.length := by simpa using h2
  have h4 : i < ts.length := by omega
  have e1 : (ts.map WT.bare)[i] = (ts[i]).bare := by simp
  have e2 : ((l.map FW.at_).map fun a => ((a, []) : Int × List Int))[i] = ((l[i]).at_, []) := by simp
  rw [e1, e2]
  exact ⟨ha i h4 h3, rfl, ⟨by simp, fun j hj => by simp at hj⟩⟩
/-- The words whose first k have lost their calls. -/
def bareN (ts : List WT) (k : Nat) : List WT := (ts.take k).map WT.bare ++ ts.drop k
theorem bareN_zero (ts : List WT) : bareN ts 0 = ts := by simp [bareN]
theorem bareN_len (ts : List WT) (k : Nat) : (bareN ts k).length = ts.length := by simp [bareN]; omega
theorem bareN_all (ts : List WT) : bareN ts ts.length = ts.map WT.bare := by simp [bareN]
theorem bareN_at {ts : List WT} {k : Nat} (hk : k < ts.length) : (bareN ts k)[k]'(by rw [bareN_len]; exact hk) = ts[k] := by
  unfold bareN
  rw [List.getElem_append_right (by simp; omega)]
  simp [Nat.min_eq_left (Nat.le_of_lt hk)]
theorem bareN_succ {ts : List WT} {k : Nat} (hk : k < ts.length) : (bareN ts k).set k ((bareN ts k)[k]'(by rw [bareN_len]; exact hk)).bare = bareN ts (k + 1) := by
  rw [bareN_at hk]
  unfold bareN
  have hl : ((ts.take k).map WT.bare).length = k := by simp; omega
  rw [List.set_append_right _ _ (by omega), hl, Nat.sub_self, List.drop_eq_getElem_cons hk, List.set_cons_zero, ← List.take_append_getElem hk, List.map_append, List.append_assoc]
  rfl
theorem strikeN {w : World} {base g n c : Nat} {ts : List WT} {k : Nat} (h : RowW w base (.slice (some ⟨g, 0, none⟩) n c) (bareN ts k)) (hk : k < ts.length) :
    RowW (w.setCell ⟨g, k * 3 + 2, none⟩ (.slice none 0 0)) base (.slice (some ⟨g, 0, none⟩) n c) (bareN ts (k + 1)) := by
  have := h.strike k (by rw [bareN_len]; exact hk)
  rwa [bareN_succ hk] at this
/-- Is the address among the words? -/
def isAt (a : Int) (l : List FW) : Bool := l.any fun x => decide (x.at_ = a)
theorem isAt_snoc (a : Int) (l : List FW) (x : FW) : isAt a (l ++ [x]) = (isAt a l || decide (x.at_ = a)) := by unfold isAt; rw [List.any_append]; simp
theorem isAt_take {a : Int} {l : List FW} {k : Nat} (hk : k < l.length) : isAt a (l.take (k + 1)) = (isAt a (l.take k) || decide ((l[k]).at_ = a)) := by rw [← List.take_append_getElem hk, isAt_snoc]
theorem isAt_all {a : Int} {l : List FW} {k : Nat} (h : ord k (ordArg l) [] = some (.error a)) : isAt a l = true := by
  obtain ⟨x, hx, e⟩ := ord_err _ _ _ _ h
  obtain ⟨y, hy, rfl⟩ := List.mem_map.1 hx
  exact List.any_eq_true.2 ⟨y, hy, by simpa using e⟩
theorem getD_at {l : List FW} {k : Nat} (hk : k < l.length) : (l.map FW.at_).getD k 0 = (l[k]).at_ := by
  rw [List.getD_eq_getElem?_getD, List.getElem?_map, List.getElem?_eq_getElem hk]; rfl
end Go.Proofs.YtabeljpnmmfpgaaDoor
