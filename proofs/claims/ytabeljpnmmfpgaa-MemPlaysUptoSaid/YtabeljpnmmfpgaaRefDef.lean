/-
  The document's memory (ref.Memory) as the heap holds it, told by the record that tells the program's.
-/
import Derived.Test.YtabeljpnmmfpgaaMemRefR
import Derived.Test.YtabeljpnmmfpgaaMemMeth
namespace Go.Proofs.Ytabeljpnmmfpgaa
open Go.RowKit Go.MapKept
set_option linter.unusedVariables false
set_option linter.unusedSimpArgs false

/-- The object's cells. -/
def refV (M : Mm) (bv : Value) (br bs : Nat) (tv : Value) : Array Value :=
  refCells bv (.slice (some ⟨br, 0, none⟩) 16384 16384) (.slice (some ⟨bs, 0, none⟩) 3072 3072) M.chosen M.pad M.pitch M.volume M.time M.cycle tv

/-- n bytes in a block of their own. -/
def Buf (w : World) (b n : Nat) (f : Nat → Int) : Prop := ∃ cs, w.heap[b]? = some (.cells cs 5 (0, 0)) ∧ cs.size = n ∧ ∀ i, i < n → cs[i]? = some (.int .u8 (f i))
theorem Buf.cell {w : World} {b n : Nat} {f : Nat → Int} (h : Buf w b n f) {i : Nat} (hi : i < n) : w.cell? ⟨b, i, none⟩ = some (.int .u8 (f i)) := by
  obtain ⟨cs, h1, h2, h3⟩ := h
  rw [cell_of h1]; exact h3 i hi
theorem Buf.free {w : World} {b n : Nat} {f : Nat → Int} (h : Buf w b n f) (i : Nat) : w.frozen? ⟨b, i, none⟩ = false := by
  obtain ⟨cs, h1, h2, h3⟩ := h
  exact free_of h1 i
theorem Buf.keep {w w' : World} {b n : Nat} {f : Nat → Int} (h : Buf w b n f) (e : w'.heap[b]? = w.heap[b]?) : Buf w' b n f := by
  obtain ⟨cs, h1, h2⟩ := h
  exact ⟨cs, e.trans h1, h2⟩
theorem Buf.far {w : World} {b n : Nat} {f : Nat → Int} (h : Buf w b n f) {q i : Nat} (v : Value) (hq : b ≠ q) : Buf (w.setCell ⟨q, i, none⟩ v) b n f := h.keep (heap_set_far hq)
theorem Buf.set {w : World} {b n : Nat} {f : Nat → Int} (h : Buf w b n f) (i : Nat) (x : Int) : Buf (w.setCell ⟨b, i, none⟩ (.int .u8 x)) b n (fun j => if j = i then x else f j) := by
  obtain ⟨cs, h1, h2, h3⟩ := h
  refine ⟨_, heap_set_cell h1 i _, by simp [h2], fun j hj => ?_⟩
  rw [Array.getElem?_setIfInBounds]
  dsimp only
  by_cases e : i = j
  · subst e; simp [h2, hj]
  · rw [if_neg e, if_neg (fun e' => e e'.symm)]; exact h3 j hj
theorem Buf.ne {w : World} {b n : Nat} {f : Nat → Int} (h : Buf w b n f) {i : Nat} {c : Array Value} {t : TypeId} {z : Nat × Nat} (h' : w.heap[i]? = some (.cells c t z)) (ht : t ≠ 5) : i ≠ b := by
  obtain ⟨cs, h1, h2⟩ := h
  exact heap_ne h' h1 (cells_ne ht)

/-- The row of the banks. -/
def rowCells (l : List Int) (bx : Nat → Nat) (k : Nat) : List Value := (List.range k).flatMap fun i => [.int .i64 (l.getD i 0), .slice (some ⟨bx i, 0, none⟩) 16384 16384]
theorem rowCells_succ (l : List Int) (bx : Nat → Nat) (k : Nat) : rowCells l bx (k + 1) = rowCells l bx k ++ [.int .i64 (l.getD k 0), .slice (some ⟨bx k, 0, none⟩) 16384 16384] := by
  simp [rowCells, List.range_succ]
theorem rowCells_length (l : List Int) (bx : Nat → Nat) (k : Nat) : (rowCells l bx k).length = k * 2 := by
  induction k with
  | zero => rfl
  | succ k ih => rw [rowCells_succ, List.length_append, ih]; simp; omega
theorem rowCells_at (l : List Int) (bx : Nat → Nat) : ∀ (k i : Nat), i < k → (rowCells l bx k)[i * 2]? = some (.int .i64 (l.getD i 0)) ∧ (rowCells l bx k)[i * 2 + 1]? = some (.slice (some ⟨bx i, 0, none⟩) 16384 16384)
  | k + 1, i, h => by
    have hl := rowCells_length l bx k
    rw [rowCells_succ]
    by_cases e : i = k
    · subst e
      constructor
      · rw [List.getElem?_append_right (by omega), hl, show i * 2 - i * 2 = 0 by omega]; rfl
      · rw [List.getElem?_append_right (by omega), hl, show i * 2 + 1 - i * 2 = 1 by omega]; rfl
    · obtain ⟨h1, h2⟩ := rowCells_at l bx k i (by omega)
      constructor
      · rw [List.getElem?_append_left (by omega)]; exact h1
      · rw [List.getElem?_append_left (by omega)]; exact h2

structure RefAt (w : World) (b : Nat) (M : Mm) (S : Nat → Prop) (l : List Int) (bx : Nat → Nat) (bv : Value) (br bs : Nat) (tv : Value) : Prop where
  ok : M.Ok
  obj : w.heap[b]? = some (.cells (refV M bv br bs tv) 80 (0, 0))
  ram : Buf w br 16384 M.ram
  scr : Buf w bs 3072 M.scr
  asc : l.Pairwise (fun x y => x < y)
  has : ∀ n, (M.bank n).isSome = true ↔ n ∈ l
  small : ∀ n ∈ l, 0 ≤ n ∧ n < 16
  row : w.ownsRow 0 37 2 bv l.length (rowCells l bx l.length)
  bank : ∀ i, i < l.length → ∃ g, M.bank (l.getD i 0) = some g ∧ Buf w (bx i) 16384 g
  inj : ∀ i j, i < l.length → j < l.length → bx i = bx j → i = j
  nrs : br ≠ bs
  nrx : ∀ i, i < l.length → bx i ≠ br ∧ bx i ≠ bs
  tones : w.ownsRow 0 92 3 tv M.tones.length (toneCells M.tones)
  sb : S b
  sr : S br
  ss : S bs
  sx : ∀ i, i < l.length → S (bx i)
  sv : ∀ k, bv.ownBlock = some k → S k
  st : ∀ k, tv.ownBlock = some k → S k
  lt : ∀ i, S i → i < w.heap.size

def RefRep (w : World) (b : Nat) (M : Mm) (S : Nat → Prop) : Prop := ∃ l bx bv br bs tv, RefAt w b M S l bx bv br bs tv

theorem RefRep.stays {w w' : World} {b : Nat} {M : Mm} {S : Nat → Prop} (h : RefRep w b M S) (hs : ∀ i, S i → w'.heap[i]? = w.heap[i]?) : RefRep w' b M S := by
  obtain ⟨l, bx, bv, br, bs, tv, H⟩ := h
  refine ⟨l, bx, bv, br, bs, tv, { H with obj := (hs b H.sb).trans H.obj, ram := H.ram.keep (hs br H.sr), scr := H.scr.keep (hs bs H.ss), row := ownsRow_heap H.row (fun k hk => hs k (H.sv k hk)), bank := ?_, tones := ownsRow_heap H.tones (fun k hk => hs k (H.st k hk)), lt := ?_ }⟩
  · intro i hi
    obtain ⟨g, h1, h2⟩ := H.bank i hi
    exact ⟨g, h1, h2.keep (hs _ (H.sx i hi))⟩
  · intro i hi
    have := H.lt i hi
    have h2 := hs i hi
    rw [Array.getElem?_eq_getElem this] at h2
    exact (Array.getElem?_eq_some_iff.1 h2).1
theorem RefRep.lt {w : World} {b : Nat} {M : Mm} {S : Nat → Prop} (h : RefRep w b M S) : ∀ i, S i → i < w.heap.size := by
  obtain ⟨_, _, _, _, _, _, H⟩ := h; exact H.lt
theorem RefRep.isOk {w : World} {b : Nat} {M : Mm} {S : Nat → Prop} (h : RefRep w b M S) : M.Ok := by
  obtain ⟨_, _, _, _, _, _, H⟩ := h; exact H.ok
theorem RefRep.upd {w w' : World} {b : Nat} {M : Mm} {S T : Nat → Prop} (h : RefRep w b M S) (u : Upd w w' T) (hd : ∀ i, S i → ¬ T i) : RefRep w' b M S :=
  h.stays (fun i hi => u.block i (h.lt i hi) (hd i hi))
theorem RefRep.below {w w' : World} {b : Nat} {M : Mm} {S : Nat → Prop} (h : RefRep w b M S) (hb : Below w.heap.size w w') : RefRep w' b M S := h.stays (fun i hi => hb.block i (h.lt i hi))

/-- What an operation on the document's memory leaves. -/
structure RefDone (w w' : World) (b : Nat) (M' : Mm) (S : Nat → Prop) : Prop where
  upd : Upd w w' S
  rep : ∃ S', RefRep w' b M' S' ∧ ∀ i, S' i → S i ∨ w.heap.size ≤ i

section
variable {w : World} {b : Nat} {M : Mm} {S : Nat → Prop} {l : List Int} {bx : Nat → Nat} {bv : Value} {br bs : Nat} {tv : Value}

theorem RefAt.cells (h : RefAt w b M S l bx bv br bs tv) : w.cell? ⟨b, 0, none⟩ = some bv ∧ w.cell? ⟨b, 1, none⟩ = some (.slice (some ⟨br, 0, none⟩) 16384 16384) ∧ w.cell? ⟨b, 2, none⟩ = some (.slice (some ⟨bs, 0, none⟩) 3072 3072) ∧ w.cell? ⟨b, 3, none⟩ = some (.int .u8 M.chosen) ∧
    w.cell? ⟨b, 4, none⟩ = some (.int .u8 M.pad) ∧ w.cell? ⟨b, 5, none⟩ = some (.int .u16 M.pitch) ∧ w.cell? ⟨b, 6, none⟩ = some (.int .u8 M.volume) ∧ w.cell? ⟨b, 7, none⟩ = some (.int .u16 M.time) ∧ w.cell? ⟨b, 8, none⟩ = some (.int .i64 M.cycle) ∧ w.cell? ⟨b, 9, none⟩ = some tv ∧ ∀ j, w.frozen? ⟨b, j, none⟩ = false :=
  cells10 h.obj

/-- The row's cells. -/
theorem RefAt.rowAt (h : RefAt w b M S l bx bv br bs tv) : (l = [] ∧ bv = .slice none 0 0) ∨ ∃ g c, bv = .slice (some ⟨g, 0, none⟩) l.length c ∧ ∀ i, i < l.length → w.cell? ⟨g, i * 2, none⟩ = some (.int .i64 (l.getD i 0)) ∧ w.cell? ⟨g, i * 2 + 1, none⟩ = some (.slice (some ⟨bx i, 0, none⟩) 16384 16384) := by
  rcases h.row.2 with ⟨e, h0⟩ | ⟨g, cap, cur, e, _, hh, _, _, _, hc⟩
  · exact .inl ⟨List.eq_nil_of_length_eq_zero h0, e⟩
  · refine .inr ⟨g, cap, e, fun i hi => ?_⟩
    obtain ⟨h1, h2⟩ := rowCells_at l bx l.length i hi
    rw [← hc, List.getElem?_take] at h1 h2
    rw [if_pos (by omega)] at h1 h2
    rw [cell_of hh, cell_of hh, ← Array.getElem?_toList, ← Array.getElem?_toList]
    exact ⟨h1, h2⟩

/-- What is no row of tones stays where the tones' row alone has turned. -/
theorem RefAt.keep (h : RefAt w b M S l bx bv br bs tv) {w2 : World} (u : Upd w w2 (fun k => tv.ownBlock = some k)) {i : Nat} {c : Array Value} {t : TypeId} {z : Nat × Nat} (hi : w.heap[i]? = some (.cells c t z)) (ht : t ≠ 92) : w2.heap[i]? = some (.cells c t z) := by
  refine u.keep hi (fun e => ?_)
  rcases h.tones.2 with ⟨rfl, _⟩ | ⟨g', cap, cur, rfl, _, hh, _⟩
  · simp [Value.ownBlock] at e
  · simp only [Value.ownBlock, Option.some.injEq] at e
    subst e
    rw [hh] at hi
    cases hi
    exact ht rfl

/-- A cell of the object is written, the tones' row may have turned. -/
theorem RefAt.setObj (h : RefAt w b M S l bx bv br bs tv) {S' : Nat → Prop} {w2 : World} (u : Upd w w2 (fun k => tv.ownBlock = some k)) (k : Nat) (v : Value) (M' : Mm) (tv' : Value) (hok : M'.Ok) (hc : (refV M bv br bs tv).setIfInBounds k v = refV M' bv br bs tv') (h1 : M'.bank = M.bank) (h2 : M'.ram = M.ram) (h3 : M'.scr = M.scr)
    (ht : w2.ownsRow 0 92 3 tv' M'.tones.length (toneCells M'.tones)) (hS : ∀ i, S i → S' i) (hst : ∀ k, tv'.ownBlock = some k → S' k) (hlt : ∀ i, S' i → i < w2.heap.size) :
    RefAt (w2.setCell ⟨b, k, none⟩ v) b M' S' l bx bv br bs tv' := by
  have hobj : w2.heap[b]? = some (.cells (refV M bv br bs tv) 80 (0, 0)) := h.keep u h.obj (by decide)
  have far : ∀ {i : Nat} {c : Array Value} {t : TypeId} {z : Nat × Nat}, w2.heap[i]? = some (.cells c t z) → t ≠ 80 → i ≠ b := fun hi ht => heap_ne hi hobj (cells_ne ht)
  have buf : ∀ {q n : Nat} {f : Nat → Int}, Buf w q n f → Buf (w2.setCell ⟨b, k, none⟩ v) q n f := fun hb => by
    obtain ⟨cs, e, e2⟩ := hb
    have e' := h.keep u e (by decide)
    exact ⟨cs, by rw [heap_set_far (far e' (by decide))]; exact e', e2⟩
  have rows : ∀ {t : TypeId} {size n : Nat} {u : Value} {xs : List Value}, t ≠ 80 → w2.ownsRow 0 t size u n xs → (w2.setCell ⟨b, k, none⟩ v).ownsRow 0 t size u n xs := fun ht hr => ownsRow_heap hr (fun g hg => heap_set_far (by
    rcases hr.2 with ⟨rfl, _⟩ | ⟨g', cap, cur, rfl, _, hh, _⟩
    · simp [Value.ownBlock] at hg
    · simp only [Value.ownBlock, Option.some.injEq] at hg
      subst hg
      exact far hh ht))
  have row2 : w2.ownsRow 0 37 2 bv l.length (rowCells l bx l.length) := ownsRow_heap h.row (fun g hg => by
    rcases h.row.2 with ⟨rfl, _⟩ | ⟨g', cap, cur, rfl, _, hh, _⟩
    · simp [Value.ownBlock] at hg
    · simp only [Value.ownBlock, Option.some.injEq] at hg
      subst hg
      rw [hh]; exact h.keep u hh (by decide))
  exact { ok := hok, obj := hc ▸ heap_set_cell hobj k v, ram := h2 ▸ buf h.ram, scr := h3 ▸ buf h.scr, asc := h.asc, has := by rw [h1]; exact h.has, small := h.small, row := rows (by decide) row2,
          bank := fun i hi => by obtain ⟨g, e1, e2⟩ := h.bank i hi; exact ⟨g, by rw [h1]; exact e1, buf e2⟩, inj := h.inj, nrs := h.nrs, nrx := h.nrx, tones := rows (by decide) ht,
          sb := hS _ h.sb, sr := hS _ h.sr, ss := hS _ h.ss, sx := fun i hi => hS _ (h.sx i hi), sv := fun k hk => hS _ (h.sv k hk), st := hst, lt := by simpa [World.setCell] using hlt }

/-- A byte of one of the lists is written. -/
theorem RefAt.setBuf (h : RefAt w b M S l bx bv br bs tv) {q n : Nat} {f : Nat → Int} (hq : Buf w q n f) (i : Nat) (x : Int) (M' : Mm) (hok : M'.Ok) (hobj : refV M' bv br bs tv = refV M bv br bs tv) (htn : M'.tones = M.tones) (hhas : ∀ n, (M'.bank n).isSome = (M.bank n).isSome)
    (h2 : Buf (w.setCell ⟨q, i, none⟩ (.int .u8 x)) br 16384 M'.ram) (h3 : Buf (w.setCell ⟨q, i, none⟩ (.int .u8 x)) bs 3072 M'.scr)
    (h4 : ∀ j, j < l.length → ∃ g, M'.bank (l.getD j 0) = some g ∧ Buf (w.setCell ⟨q, i, none⟩ (.int .u8 x)) (bx j) 16384 g) :
    RefAt (w.setCell ⟨q, i, none⟩ (.int .u8 x)) b M' S l bx bv br bs tv := by
  have rows : ∀ {t : TypeId} {size n : Nat} {u : Value} {xs : List Value}, t ≠ 5 → w.ownsRow 0 t size u n xs → (w.setCell ⟨q, i, none⟩ (.int .u8 x)).ownsRow 0 t size u n xs := fun ht hr => ownsRow_heap hr (fun g hg => heap_set_far (by
    rcases hr.2 with ⟨rfl, _⟩ | ⟨g', cap, cur, rfl, _, hh, _⟩
    · simp [Value.ownBlock] at hg
    · simp only [Value.ownBlock, Option.some.injEq] at hg
      subst hg
      exact hq.ne hh ht))
  exact { ok := hok, obj := by rw [heap_set_far (hq.ne h.obj (by decide)), hobj]; exact h.obj, ram := h2, scr := h3, asc := h.asc, has := fun n => by rw [hhas n]; exact h.has n, small := h.small, row := rows (by decide) h.row,
          bank := h4, inj := h.inj, nrs := h.nrs, nrx := h.nrx, tones := htn ▸ rows (by decide) h.tones, sb := h.sb, sr := h.sr, ss := h.ss, sx := h.sx, sv := h.sv, st := h.st, lt := by simpa [World.setCell] using h.lt }
end
end Go.Proofs.Ytabeljpnmmfpgaa
