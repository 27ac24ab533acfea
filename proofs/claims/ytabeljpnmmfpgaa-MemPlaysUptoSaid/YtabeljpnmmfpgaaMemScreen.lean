/-
  (*mem.Memory).Screen.
-/
import Derived.Test.YtabeljpnmmfpgaaMemBack
import Derived.Deep.MidRow
import Derived.Deep.WholeRow
namespace Go.Proofs.Ytabeljpnmmfpgaa
open Go.RowKit Go.MapKept
set_option linter.unusedVariables false
set_option linter.unusedSimpArgs false

def bytesOf (f : Nat → Int) (n : Nat) : List Int := (List.range n).map f
theorem bytesOf_length (f : Nat → Int) (n : Nat) : (bytesOf f n).length = n := by simp [bytesOf]
theorem bytesOf_at (f : Nat → Int) (n j : Nat) (hj : j < n) : (bytesOf f n).getD j 0 = f j := by
  unfold bytesOf; rw [List.getD_eq_getElem?_getD, List.getElem?_map, List.getElem?_range hj]; rfl
theorem byteCells_get (l : List Int) (j : Nat) (hj : j < l.length) : (byteCells l)[j]? = some (.int .u8 (l.getD j 0)) := by
  unfold byteCells; rw [List.getElem?_map, List.getD_eq_getElem?_getD, List.getElem?_eq_getElem hj]; rfl

theorem info3072 : (Try.prog.info? 85).map (·.size) = some 3072 := by kernel_rfl

theorem zp_size : Try.zeroCells85.size = 3072 := by kernel_rfl

theorem MemAt.scrRange {w : World} {b : Nat} {M : Mm} {S : Nat → Prop} {cs : Array Value} {bm : Nat} {es : Array MapEntry} {clk : Nat} {bf : Int → Option Nat} {tv : Value} (h : MemAt w b M S cs bm es clk bf tv) : w.rangeAt b 16385 (byteCells (bytesOf M.scr 3072)) := by
  intro j v hj
  obtain ⟨h1, rfl⟩ := byteCells_at hj
  rw [bytesOf_length] at h1
  rw [h.at_ (16385 + j) (by omega), M.cell_scr bm tv h1, bytesOf_at _ _ _ h1]

theorem block_bytes {w : World} {g : Nat} {t : TypeId} {l : List Int} (h : w.heap[g]? = some (.cells (byteCells l).toArray t (0, 0))) : BytesIn w (.slice (some ⟨g, 0, none⟩) l.length l.length) l :=
  ⟨_, _, rfl, (fun e => by cases e), fun _ => ⟨g, 0, rfl, fun j hj => by
    rw [Nat.zero_add, cell_of h, List.getElem?_toArray]; exact byteCells_get l j hj⟩⟩

set_option maxRecDepth 100000 in
set_option maxHeartbeats 2000000 in
theorem screen_rep {b : Nat} {M : Mm} {S : Nat → Prop} {w : World} (h : MemRep w b M S) :
    Calls Try.prog 29 #[.pointer (some ⟨b, 0, none⟩)] w fun e w' => e = .returned (.slice (some ⟨w.heap.size, 0, none⟩) 3072 3072) ∧ BytesIn w' (.slice (some ⟨w.heap.size, 0, none⟩) 3072 3072) (bytesOf M.scr 3072) ∧ (∃ cs : Array Value, w'.heap[w.heap.size]? = some (.cells cs 85 (0, 0)) ∧ cs.size = 3072) ∧ Below w.heap.size w w' := by
  obtain ⟨cs, bm, es, clk, bf, tv, H⟩ := h
  have hr := Lib.hid H.scrRange
  have hl : (byteCells (bytesOf M.scr 3072)).length = 3072 := by rw [byteCells_length, bytesOf_length]
  have h1 := byteCells_one (bytesOf M.scr 3072)
  have fin := block_bytes (w := w.alloc (.cells (byteCells (bytesOf M.scr 3072)).toArray 85)) (g := w.heap.size) (t := 85) (l := bytesOf M.scr 3072) (heap_alloc_at w _)
  rw [bytesOf_length] at fin
  have FIN := Lib.hid fin
  obtain ⟨L, hL⟩ : ∃ L, L = byteCells (bytesOf M.scr 3072) := ⟨_, rfl⟩
  rw [← hL] at hr hl h1 FIN
  have H1 := Lib.hid h1
  have HL := Lib.hid hl
  have HI : Hid ((Try.prog.info? 85).map (·.size) = some L.length) := by rw [hl]; exact info3072
  have HJ : Hid ((Try.prog.info? 85).map (·.size) = some L.toArray.size) := by rw [List.size_toArray, hl]; exact info3072
  have HO : Hid (L.toArray.all (·.oneCell') = true) := all_oneCell_toArray h1
  clear H hL fin h1 hl
  go_enter Try.func29, Try.ntmps29
  go_wp2_with (fail)
  refine wp_load_mid 85 _ rfl b 16385 rfl L _ hr.out Try.underlying85 rfl HI.out ?_
  have hsc : (storeCells ⟨w.heap.size, 0, none⟩ L 0).run Try.prog (w.alloc (.cells Try.zeroCells85 85)) = .ok () (w.alloc (.cells L.toArray 85)) :=
    run_storeCells_new (P := Try.prog) w 85 Try.zeroCells85 L.toArray HJ.out (by rw [zp_size, List.size_toArray, HL.out]) HO.out
  go_wp2_with (fail)
  go_ret
  exact ⟨rfl, FIN.out, ⟨_, heap_alloc_at w _, by rw [List.size_toArray]; exact HL.out⟩, (Below.refl _ _).alloc (Nat.le_refl _) _⟩
end Go.Proofs.Ytabeljpnmmfpgaa
