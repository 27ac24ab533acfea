/-
  full of the document's memory, its room told whole; the copy in the making.
  (*ref.Memory).Copy: another memory that the same record tells.
-/
import Derived.Test.YtabeljpnmmfpgaaRefStore
import Derived.Test.YtabeljpnmmfpgaaMemScreen
import Derived.Deep.RegionHeld3
import Derived.Deep.AppendLies
import Derived.Deep.DeepCutAuto
import Derived.Sort.AtCall
namespace Go.Proofs.Ytabeljpnmmfpgaa
open Go.RowKit Go.MapKept
set_option linter.unusedVariables false
set_option linter.unusedSimpArgs false

theorem FullRel.buf {w wr : World} {l : List Int} {n k : Nat} (h : FullRel w wr l n k) (hk : l.length = k) : Buf wr w.heap.size n (fun j => l.getD j 0) := by
  obtain ⟨hb, cs, h1, h2, h3⟩ := h
  refine ⟨cs, h1, h2, fun j hj => ?_⟩
  rw [h3 j hj]
  dsimp only
  by_cases e : j < k
  · rw [if_pos e]
  · rw [if_neg e, List.getD_eq_getElem?_getD, List.getElem?_eq_none (by omega)]; rfl

set_option maxRecDepth 100000 in
set_option maxHeartbeats 2000000 in
theorem fullB_any (w : World) (v : Value) (l : List Int) (n : Nat) (hb : BytesIn w v l) (hl : l.length ≤ n) (hn : n ≤ 16384) :
    Calls Try.prog 44 #[v, .int .i64 n] w fun e w' => e = .returned (.slice (some ⟨w.heap.size, 0, none⟩) n n) ∧ Buf w' w.heap.size n (fun j => l.getD j 0) ∧ Below w.heap.size w w' := by
  have start := Lib.hid (FullRel.start w l n)
  obtain ⟨a, c, rfl, hcn, h2⟩ := hb
  have H2 := Lib.hid h2
  clear h2 hcn
  go_enter Try.func44, Try.ntmps44
  have hmk := run_make_row' (P := Try.prog) 35 5 (.int .u8 0) 1 Try.underlying35 infoU8 rfl .i64 .i64 n (by omega) (by omega)
  go_wp2_with (fail)
  go_loopw [11] (fun i wr => ∃ k : Nat, k ≤ l.length ∧ i = .int .i64 k ∧ Hid (FullRel w wr l n k)) (fun i _ => l.length - (intOf i).toNat)
  case atStart => exact ⟨0, Nat.zero_le _, rfl, start⟩
  case round =>
    obtain ⟨k, hk, rfl, hr⟩ := hrel
    by_cases hlt : k < l.length
    · obtain ⟨b, o, rfl, hc⟩ := H2.out (by omega)
      have hc' := hc k hlt
      have c0 : wr.cell? ⟨b, o + k, none⟩ = some (.int .u8 (l.getD k 0)) := cell_keep hr.out.below hc' (World.block_lt_of_cell? w _ hc')
      obtain ⟨cs, h1, h2, h3⟩ := hr.out.blk
      have c1 : wr.cell? ⟨w.heap.size, k, none⟩ = some (.int .u8 0) := by rw [cell_of h1, h3 k (by omega), if_neg (by omega)]
      have c2 : wr.frozen? ⟨w.heap.size, k, none⟩ = false := by simp [World.frozen?, h1]
      have next : Hid (FullRel w (wr.setCell ⟨w.heap.size, k, none⟩ (.int .u8 (l.getD k 0))) l n (k + 1)) := hr.out.step (by omega)
      obtain ⟨x, hx⟩ : ∃ x, x = l.getD k 0 := ⟨_, rfl⟩
      rw [← hx] at c0 next
      have hkn : (k : Int) < (n : Int) := by omega
      clear hx hc hc' h1 h2 h3 hr
      go_wp2_with (fail)
      go_roundw
      case rel => exact ⟨k + 1, hlt, by go_num, next⟩
      case measure => simp [intOf]; omega
    · have hke : l.length = k := by omega
      have fin : Hid (Buf wr w.heap.size n (fun j => l.getD j 0) ∧ Below w.heap.size w wr) := ⟨hr.out.buf hke, hr.out.below⟩
      clear hke
      go_wp2_with (fail)
      go_ret
      exact ⟨rfl, fin.out⟩

theorem Buf.bytes {w : World} {q n c : Nat} {g : Nat → Int} (h : Buf w q n g) : BytesIn w (.slice (some ⟨q, 0, none⟩) n c) (bytesOf g n) := by
  refine ⟨some ⟨q, 0, none⟩, c, by rw [bytesOf_length], (fun e => by cases e), fun _ => ⟨q, 0, rfl, fun j hj => ?_⟩⟩
  rw [bytesOf_length] at hj
  rw [bytesOf_at _ _ _ hj, Nat.zero_add]; exact h.cell hj
theorem Buf.congr {w : World} {q n : Nat} {f g : Nat → Int} (h : Buf w q n f) (e : ∀ i, i < n → g i = f i) : Buf w q n g := by
  obtain ⟨cs, h1, h2, h3⟩ := h
  exact ⟨cs, h1, h2, fun i hi => by rw [e i hi]; exact h3 i hi⟩

/-- full of a whole room. -/
theorem fullBuf {w : World} {q n c : Nat} {g : Nat → Int} (h : Buf w q n g) (hn : n ≤ 16384) :
    Calls Try.prog 44 #[.slice (some ⟨q, 0, none⟩) n c, .int .i64 n] w fun e w' => e = .returned (.slice (some ⟨w.heap.size, 0, none⟩) n n) ∧ Buf w' w.heap.size n g ∧ Below w.heap.size w w' := by
  refine (fullB_any w _ (bytesOf g n) n h.bytes (by rw [bytesOf_length]; exact Nat.le_refl _) hn).mono ?_
  rintro e w' ⟨he, hb, hw⟩
  exact ⟨he, hb.congr (fun i hi => (bytesOf_at g n i hi).symm), hw⟩

/-! ### the copy in the making -/
theorem rowCells_congr (l : List Int) (bx by' : Nat → Nat) : ∀ (k : Nat), (∀ i, i < k → bx i = by' i) → rowCells l bx k = rowCells l by' k
  | 0, _ => rfl
  | k + 1, h => by rw [rowCells_succ, rowCells_succ, rowCells_congr l bx by' k (fun i hi => h i (by omega)), h k (by omega)]

structure Cp (w W : World) (M : Mm) (l : List Int) (k : Nat) (bx : Nat → Nat) (bv rv sv tv : Value) : Prop where
  below : Below w.heap.size w W
  obj : W.heap[w.heap.size]? = some (.cells (refCells bv rv sv M.chosen M.pad M.pitch M.volume M.time M.cycle tv) 80 (0, 0))
  row : W.ownsRow (w.heap.size + 1) 37 2 bv k (rowCells l bx k)
  dat : ∀ i, i < k → ∃ g, M.bank (l.getD i 0) = some g ∧ Buf W (bx i) 16384 g ∧ w.heap.size < bx i
  inj : ∀ i j, i < k → j < k → bx i = bx j → i = j
section
variable {w W : World} {M : Mm} {l : List Int} {k : Nat} {bx : Nat → Nat} {bv rv sv tv : Value}
theorem Cp.lt (h : Cp w W M l k bx bv rv sv tv) : w.heap.size < W.heap.size := heap_lt h.obj
theorem Cp.start (w : World) (M : Mm) (l : List Int) (bx : Nat → Nat) (rv sv tv : Value) :
    Cp w (w.alloc (.cells (refCells (.slice none 0 0) rv sv M.chosen M.pad M.pitch M.volume M.time M.cycle tv) 80)) M l 0 bx (.slice none 0 0) rv sv tv :=
  ⟨(Below.refl _ _).alloc (Nat.le_refl _) _, heap_alloc_at w _, World.ownsRow_nil _ _ _ _, fun i hi => by omega, fun i j hi => by omega⟩
theorem Cp.next (h : Cp w W M l k bx bv rv sv tv) {W' : World} (hb : Below W.heap.size W W') : Cp w W' M l k bx bv rv sv tv :=
  ⟨h.below.trans (hb.mono h.below.size), (hb.block _ (heap_lt h.obj)).trans h.obj, ownsRow_heap h.row (fun b hb' => hb.block _ (ownBlock_lt h.row hb')),
   fun i hi => by obtain ⟨g, h1, h2, h3⟩ := h.dat i hi; exact ⟨g, h1, h2.keep (hb.block _ (by obtain ⟨cs, e, _⟩ := h2; exact heap_lt e)), h3⟩, h.inj⟩
/-- The row's blocks are of banks. -/
theorem rowBlk {W : World} {base n : Nat} {t : TypeId} {v : Value} {xs : List Value} {size : Nat} (ho : W.ownsRow base t size v n xs) : ∀ b, v.ownBlock = some b → ∃ cs, W.heap[b]? = some (.cells cs t (0, 0)) := fun b hb => by
  rcases ho.2 with ⟨rfl, _⟩ | ⟨q, cap, cur, rfl, _, hh, _⟩
  · simp [Value.ownBlock] at hb
  · simp only [Value.ownBlock, Option.some.injEq] at hb
    subst hb; exact ⟨_, hh⟩
theorem rowNe {W : World} {base n : Nat} {t t' : TypeId} {v : Value} {xs : List Value} {size : Nat} (ho : W.ownsRow base t size v n xs) {i : Nat} {c : Array Value} {z : Nat × Nat} (hi : W.heap[i]? = some (.cells c t' z)) (ht : t' ≠ t) : some i ≠ v.ownBlock := fun e => by
  obtain ⟨cs, h⟩ := rowBlk ho i e.symm
  rw [hi] at h
  exact cells_ne ht (Option.some.inj h)
/-- A cell of the copy is written. -/
theorem Cp.set (h : Cp w W M l k bx bv rv sv tv) (j : Nat) (v : Value) {bv' rv' sv' tv' : Value} {k' : Nat} {bx' : Nat → Nat}
    (hc : (refCells bv rv sv M.chosen M.pad M.pitch M.volume M.time M.cycle tv).setIfInBounds j v = refCells bv' rv' sv' M.chosen M.pad M.pitch M.volume M.time M.cycle tv')
    (hr : W.ownsRow (w.heap.size + 1) 37 2 bv' k' (rowCells l bx' k')) (hd : ∀ i, i < k' → ∃ g, M.bank (l.getD i 0) = some g ∧ Buf W (bx' i) 16384 g ∧ w.heap.size < bx' i) (hi : ∀ i j, i < k' → j < k' → bx' i = bx' j → i = j) :
    Cp w (W.setCell ⟨w.heap.size, j, none⟩ v) M l k' bx' bv' rv' sv' tv' :=
  ⟨h.below.setCell (by simp) _, hc ▸ heap_set_cell h.obj j v, ownsRow_heap hr (fun b hb => heap_set_far (fun e => rowNe hr h.obj (by decide) (e ▸ hb.symm))),
   fun i hi => by obtain ⟨g, h1, h2, h3⟩ := hd i hi; exact ⟨g, h1, h2.far _ (by omega), h3⟩, hi⟩
/-- A bank more. -/
theorem Cp.step (h : Cp w W M l k bx bv rv sv tv) {w3 : World} {v' : Value} {x : Nat} {g : Nat → Int} (hg : M.bank (l.getD k 0) = some g) (hb : Buf W x 16384 g) (hx : w.heap.size < x) (hnew : ∀ i, i < k → bx i ≠ x)
    (h3 : W.grownBy w3 bv.ownBlock) (hv' : w3.ownsRow (w.heap.size + 1) 37 2 v' (k + 1) (rowCells l bx k ++ [.int .i64 (l.getD k 0), .slice (some ⟨x, 0, none⟩) 16384 16384])) :
    (w3.cell? ⟨w.heap.size, 0, none⟩ = some bv ∧ w3.frozen? ⟨w.heap.size, 0, none⟩ = false) ∧ Cp w (w3.setCell ⟨w.heap.size, 0, none⟩ v') M l (k + 1) (fun i => if i = k then x else bx i) v' rv sv tv := by
  have keep : ∀ {i : Nat} {c : Array Value} {t : TypeId} {z : Nat × Nat}, W.heap[i]? = some (.cells c t z) → t ≠ 37 → w3.heap[i]? = some (.cells c t z) := fun hi ht => (h3.block _ (heap_lt hi) (rowNe h.row hi ht)).trans hi
  have x3 := keep h.obj (by decide)
  have hb3 : Below w.heap.size w w3 := h.below.grown h3 h.below.size (fun q hq => by have := (h.row.lt q hq).1; omega)
  have buf : ∀ {q : Nat} {f : Nat → Int}, Buf W q 16384 f → Buf w3 q 16384 f := fun hq => by
    obtain ⟨cs, e, e2⟩ := hq
    exact ⟨cs, keep e (by decide), e2⟩
  refine ⟨⟨(cells10 x3).1, (cells10 x3).2.2.2.2.2.2.2.2.2.2 0⟩, ?_⟩
  exact ⟨hb3.setCell (by simp) _, heap_set_cell x3 0 v', ownsRow_heap (by
      rw [rowCells_succ, rowCells_congr l _ bx k (fun i hi => by (try dsimp only); rw [if_neg (by omega)])]
      (try dsimp only); rw [if_pos rfl]; exact hv') (fun b hb => heap_set_far (fun e => rowNe hv' x3 (by decide) (e ▸ hb.symm))),
    fun i hi => by
      try dsimp only
      by_cases e : i = k
      · rw [if_pos e, e]; exact ⟨g, hg, (buf hb).far _ (by omega), hx⟩
      · rw [if_neg e]
        obtain ⟨g', h1, h2, h4⟩ := h.dat i (by omega)
        exact ⟨g', h1, (buf h2).far _ (by omega), h4⟩,
    fun i j hi hj e => by
      try dsimp only at e
      by_cases ei : i = k
      · by_cases ej : j = k
        · rw [ei, ej]
        · rw [if_pos ei, if_neg ej] at e
          exact absurd e.symm (hnew j (by omega))
      · rw [if_neg ei] at e
        by_cases ej : j = k
        · rw [if_pos ej] at e
          exact absurd e (hnew i (by omega))
        · rw [if_neg ej] at e
          exact h.inj i j (by omega) (by omega) e⟩
end
end Go.Proofs.Ytabeljpnmmfpgaa

namespace Go.Proofs.Ytabeljpnmmfpgaa
open Go.RowKit Go.MapKept
set_option linter.unusedVariables false
set_option linter.unusedSimpArgs false

theorem Cp.round {w wr w1 : World} {M : Mm} {l : List Int} {k : Nat} {bx : Nat → Nat} {bv rv sv tv : Value} {nm : Int} {dsl : Value} {g : Nat → Int} (h : Cp w wr M l k bx bv rv sv tv)
    (hb : Below (wr.heap.size + 1) (wr.alloc (.cells #[.int .i64 nm, dsl] 37)).drew w1) (hg : M.bank (l.getD k 0) = some g) (hbuf : Buf w1 (wr.heap.size + 1) 16384 g) (hnm : nm = l.getD k 0) (Y : Array Value) (hY : Y = #[.int .i64 nm, .slice (some ⟨wr.heap.size + 1, 0, none⟩) 16384 16384]) :
    (w1.cell? ⟨w.heap.size, 0, none⟩ = some bv ∧ (w1.alloc (.cells Y 37)).cell? ⟨w.heap.size, 0, none⟩ = some bv) ∧
    (w1.cell? ⟨wr.heap.size, 0, none⟩ = some (.int .i64 nm) ∧ w1.cell? ⟨wr.heap.size, 1, none⟩ = some dsl) ∧
    ((w1.alloc (.cells Y 37)).cell? ⟨wr.heap.size, 0, none⟩ = some (.int .i64 nm) ∧ (w1.alloc (.cells Y 37)).cell? ⟨wr.heap.size, 1, none⟩ = some dsl) ∧
    (w1.alloc (.cells Y 37)).ownsRow (w.heap.size + 1) 37 2 bv k (rowCells l bx k) ∧ w.heap.size + 1 ≤ w1.heap.size ∧
    (∀ j u, Y.toList[j]? = some u → (w1.alloc (.cells Y 37)).cell? ((⟨w1.heap.size, 0, none⟩ : Addr).add j) = some u) ∧
    ∀ v' w3, (w1.alloc (.cells Y 37)).grownBy w3 bv.ownBlock → w3.ownsRow (w.heap.size + 1) 37 2 v' (k + 1) (rowCells l bx k ++ Y.toList) →
      w3.cell? ⟨w.heap.size, 0, none⟩ = some bv ∧ w3.frozen? ⟨w.heap.size, 0, none⟩ = false ∧ (w3.cell? ⟨wr.heap.size, 0, none⟩ = some (.int .i64 nm) ∧ w3.cell? ⟨wr.heap.size, 1, none⟩ = some dsl) ∧
      ((w3.setCell ⟨w.heap.size, 0, none⟩ v').cell? ⟨wr.heap.size, 0, none⟩ = some (.int .i64 nm) ∧ (w3.setCell ⟨w.heap.size, 0, none⟩ v').cell? ⟨wr.heap.size, 1, none⟩ = some dsl) ∧
      Cp w (w3.setCell ⟨w.heap.size, 0, none⟩ v') M l (k + 1) (fun i => if i = k then wr.heap.size + 1 else bx i) v' rv sv tv := by
  have hlt := h.lt
  have e0 : (wr.alloc (.cells #[.int .i64 nm, dsl] 37)).drew.heap.size = wr.heap.size + 1 := by show (wr.alloc _).heap.size = _; simp
  have h0 : Cp w (wr.alloc (.cells #[.int .i64 nm, dsl] 37)).drew M l k bx bv rv sv tv := h.next (((Below.refl _ _).alloc (Nat.le_refl _) _).drew)
  have h1 : Cp w w1 M l k bx bv rv sv tv := h0.next (by rw [e0]; exact hb)
  have h2 := h1.next ((Below.refl _ _).alloc (Nat.le_refl _) (.cells Y 37))
  have hsz1 : wr.heap.size + 1 ≤ w1.heap.size := by have := hb.size; omega
  have bb : w1.heap[wr.heap.size]? = some (.cells #[.int .i64 nm, dsl] 37 (0, 0)) := (hb.block _ (by omega)).trans (heap_alloc_at wr _)
  have bb2 : (w1.alloc (.cells Y 37)).heap[wr.heap.size]? = some (.cells #[.int .i64 nm, dsl] 37 (0, 0)) := heap_alloc_old bb
  have two : ∀ {W : World}, W.heap[wr.heap.size]? = some (.cells #[.int .i64 nm, dsl] 37 (0, 0)) → W.cell? ⟨wr.heap.size, 0, none⟩ = some (.int .i64 nm) ∧ W.cell? ⟨wr.heap.size, 1, none⟩ = some dsl := fun hW => ⟨by rw [cell_of hW]; rfl, by rw [cell_of hW]; rfl⟩
  have hbuf2 : Buf (w1.alloc (.cells Y 37)) (wr.heap.size + 1) 16384 g := hbuf.keep (Below.heap_alloc _ _ _ (by obtain ⟨cs, e, _⟩ := hbuf; exact heap_lt e))
  have hlts : ∀ i, i < k → bx i < wr.heap.size := fun i hi => by
    obtain ⟨g', _, ⟨cs, e, _⟩, _⟩ := h.dat i hi
    exact heap_lt e
  refine ⟨⟨(cells10 h1.obj).1, (cells10 h2.obj).1⟩, two bb, two bb2, h2.row, by omega, fun j u hj' => ?_, fun v' w3 hgr hv' => ?_⟩
  · rw [addr_add, Nat.zero_add, cell_of (heap_alloc_at w1 _)]
    simpa using hj'
  · subst hY
    obtain ⟨⟨q1, q2⟩, q4⟩ := h2.step hg hbuf2 (by omega) (fun i hi e => by have := hlts i hi; omega) hgr (by rw [← hnm]; exact hv')
    have bb3 : w3.heap[wr.heap.size]? = some (.cells #[.int .i64 nm, dsl] 37 (0, 0)) := by
      rw [hgr.block _ (by simp; omega) (fun e => ?_)]
      · exact bb2
      · have := ownBlock_lt h.row e.symm; omega
    exact ⟨q1, q2, two bb3, two (by rw [heap_set_far (by omega)]; exact bb3), q4⟩

theorem slice_of {W : World} {base n size : Nat} {t : TypeId} {v : Value} {xs : List Value} (ho : W.ownsRow base t size v n xs) : ∃ a n c, v = .slice a n c := by
  rcases ho.2 with ⟨rfl, _⟩ | ⟨q, cap, cur, rfl, _⟩
  · exact ⟨_, _, _, rfl⟩
  · exact ⟨_, _, _, rfl⟩

def CopyPost (w : World) (M : Mm) (w' : World) : Prop := Below w.heap.size w w' ∧ ∃ S', RefRep w' w.heap.size M S' ∧ ∀ i, S' i → w.heap.size ≤ i

theorem Cp.close {w W : World} {M : Mm} {l : List Int} {bx : Nat → Nat} {bv tv : Value} {br bs : Nat} (h : Cp w W M l l.length bx bv (.slice (some ⟨br, 0, none⟩) 16384 16384) (.slice (some ⟨bs, 0, none⟩) 3072 3072) tv) (hok : M.Ok) (hasc : l.Pairwise (fun x y => x < y)) (hhas : ∀ n, (M.bank n).isSome = true ↔ n ∈ l) (hsm : ∀ n ∈ l, 0 ≤ n ∧ n < 16)
    (h1 : Buf W br 16384 M.ram) (h2 : Buf W bs 3072 M.scr) (hrs : br < bs) (hwr : w.heap.size ≤ br) (hx : ∀ i, i < l.length → bx i < br) {base : Nat} (ht : W.ownsRow base 92 3 tv M.tones.length (toneCells M.tones)) (hbase : w.heap.size ≤ base) : CopyPost w M W := by
  refine ⟨h.below, fun i => w.heap.size ≤ i ∧ i < W.heap.size, ⟨l, bx, bv, br, bs, tv, ?_⟩, fun i hi => hi.1⟩
  have lt : ∀ {q n : Nat} {f : Nat → Int}, Buf W q n f → q < W.heap.size := fun hq => by obtain ⟨cs, e, _⟩ := hq; exact heap_lt e
  have base0 : ∀ {B n size : Nat} {t : TypeId} {v : Value} {xs : List Value}, W.ownsRow B t size v n xs → W.ownsRow 0 t size v n xs := fun ho => by
    refine ⟨ho.1, ?_⟩
    rcases ho.2 with e | ⟨g, cap, cur, e1, e2, e3⟩
    · exact .inl e
    · exact .inr ⟨g, cap, cur, e1, Nat.zero_le _, e3⟩
  exact { ok := hok, obj := h.obj, ram := h1, scr := h2, asc := hasc, has := hhas, small := hsm, row := base0 h.row,
          bank := fun i hi => by obtain ⟨g, e1, e2, _⟩ := h.dat i hi; exact ⟨g, e1, e2⟩, inj := h.inj, nrs := by omega, nrx := fun i hi => by have := hx i hi; omega, tones := base0 ht,
          sb := ⟨Nat.le_refl _, h.lt⟩, sr := ⟨hwr, lt h1⟩, ss := ⟨by omega, lt h2⟩, sx := fun i hi => by obtain ⟨g, _, e2, e3⟩ := h.dat i hi; exact ⟨by omega, lt e2⟩,
          sv := fun k hk => ⟨by have := (h.row.lt k hk).1; omega, ownBlock_lt h.row hk⟩, st := fun k hk => ⟨by have := (ht.lt k hk).1; omega, ownBlock_lt ht hk⟩, lt := fun i hi => hi.2 }

theorem Cp.fin {w W2 w5 : World} {M : Mm} {l : List Int} {bx : Nat → Nat} {bv tv v' : Value} {br bs : Nat} (h : Cp w W2 M l l.length bx bv (.slice (some ⟨br, 0, none⟩) 16384 16384) (.slice (some ⟨bs, 0, none⟩) 3072 3072) tv) (hok : M.Ok) (hasc : l.Pairwise (fun x y => x < y)) (hhas : ∀ n, (M.bank n).isSome = true ↔ n ∈ l) (hsm : ∀ n ∈ l, 0 ≤ n ∧ n < 16)
    (h1 : Buf W2 br 16384 M.ram) (h2 : Buf W2 bs 3072 M.scr) (hrs : br < bs) (hwr : w.heap.size < br) (hx : ∀ i, i < l.length → bx i < br)
    (hT : Upd (W2.alloc (.cells #[] 92)) w5 (fun i => i = W2.heap.size)) (ho : w5.ownsRow W2.heap.size 92 3 v' M.tones.length (toneCells M.tones)) :
    (w5.cell? ⟨w.heap.size, 9, none⟩ = some tv ∧ w5.frozen? ⟨w.heap.size, 9, none⟩ = false) ∧ CopyPost w M (w5.setCell ⟨w.heap.size, 9, none⟩ v') := by
  have lt : ∀ {q n : Nat} {f : Nat → Int}, Buf W2 q n f → q < W2.heap.size := fun hq => by obtain ⟨cs, e, _⟩ := hq; exact heap_lt e
  have hb0 : Below W2.heap.size (W2.alloc (.cells #[] 92)) w5 := hT.below (by simp) (fun i e => by omega)
  have hb5 : Below W2.heap.size W2 w5 := ((Below.refl _ _).alloc (Nat.le_refl _) _).trans hb0
  have r5 := h.next hb5
  have r6 := r5.set 9 v' (bv' := bv) (rv' := .slice (some ⟨br, 0, none⟩) 16384 16384) (sv' := .slice (some ⟨bs, 0, none⟩) 3072 3072) (tv' := v') rfl r5.row r5.dat r5.inj
  refine ⟨⟨(cells10 r5.obj).2.2.2.2.2.2.2.2.2.1, (cells10 r5.obj).2.2.2.2.2.2.2.2.2.2 9⟩, ?_⟩
  exact r6.close hok hasc hhas hsm ((h1.keep (hb5.block _ (lt h1))).far _ (by omega)) ((h2.keep (hb5.block _ (lt h2))).far _ (by omega)) hrs (by omega) hx
    (ownsRow_heap ho (fun b hb => heap_set_far (by have := (ho.lt b hb).1; have := h.lt; omega))) (by have := h.lt; omega)

set_option maxRecDepth 100000 in
set_option maxHeartbeats 4000000 in
theorem refCopy_rep {w : World} {b : Nat} {M : Mm} {S : Nat → Prop} (h : RefRep w b M S) (hl : M.tones.length < 1000000000) :
    Calls Try.prog 33 #[.pointer (some ⟨b, 0, none⟩)] w fun e w' => e = .returned (.pointer (some ⟨w.heap.size, 0, none⟩)) ∧ CopyPost w M w' := by
  obtain ⟨l, bx0, bv0, br, bs, tv, H⟩ := h
  obtain ⟨i1, hj, hy0, hy1, hy2⟩ := info_parts infoBank
  obtain ⟨i0, hi, hz0, hz1, hz2⟩ := info_parts infoTone
  have hlen : l.length ≤ 16 := asc_len l 0 16 H.asc H.small
  have hbw : b < w.heap.size := heap_lt H.obj
  have hrow := H.rowAt
  obtain ⟨va, vc, rfl⟩ : ∃ a c, bv0 = .slice a l.length c := by
    rcases hrow with ⟨e, rfl⟩ | ⟨g, c, rfl, _⟩
    · subst e; exact ⟨_, _, rfl⟩
    · exact ⟨_, _, rfl⟩
  obtain ⟨ta, tn, tc, rfl⟩ : ∃ a n c, tv = .slice a n c := by
    rcases H.tones.2 with ⟨rfl, _⟩ | ⟨q, cap, cur, rfl, _⟩
    · exact ⟨_, _, _, rfl⟩
    · exact ⟨_, _, _, rfl⟩
  have CE : Hid (∀ k, k < l.length → ∃ g o, va = some ⟨g, o, none⟩ ∧ g < w.heap.size ∧ w.cell? ⟨g, o + k * 2, none⟩ = some (.int .i64 (l.getD k 0)) ∧ w.cell? ⟨g, o + k * 2 + 1, none⟩ = some (.slice (some ⟨bx0 k, 0, none⟩) 16384 16384)) := fun k hk => by
    rcases hrow with ⟨e, _⟩ | ⟨g, c, e, hr⟩
    · subst e; simp at hk
    · cases e
      obtain ⟨r1, r2⟩ := hr k hk
      exact ⟨g, 0, rfl, World.block_lt_of_cell? w _ r1, by rw [Nat.zero_add]; exact r1, by rw [Nat.zero_add]; exact r2⟩
  have CM : Hid (∀ W, Below w.heap.size w W → W.heap[b]? = some (.cells (refV M (.slice va l.length vc) br bs (.slice ta tn tc)) 80 (0, 0))) := fun W hW => (hW.block b hbw).trans H.obj
  have HH := Lib.hid H
  have start := Lib.hid (Cp.start w M l (fun _ => 0) (.slice (some ⟨br, 0, none⟩) 16384 16384) (.slice (some ⟨bs, 0, none⟩) 3072 3072) (.slice ta tn tc))
  obtain ⟨m0, m1, m2, m3, m4, m5, m6, m7, m8, m9, mf⟩ := cells10 H.obj
  obtain ⟨ch, hche⟩ : ∃ x, x = M.chosen := ⟨_, rfl⟩
  obtain ⟨pd, hpde⟩ : ∃ x, x = M.pad := ⟨_, rfl⟩
  obtain ⟨pi, hpie⟩ : ∃ x, x = M.pitch := ⟨_, rfl⟩
  obtain ⟨vo, hvoe⟩ : ∃ x, x = M.volume := ⟨_, rfl⟩
  obtain ⟨ti, htie⟩ : ∃ x, x = M.time := ⟨_, rfl⟩
  obtain ⟨cy, hcye⟩ : ∃ x, x = M.cycle := ⟨_, rfl⟩
  rw [← hche] at m3; rw [← hpde] at m4; rw [← hpie] at m5; rw [← hvoe] at m6; rw [← htie] at m7; rw [← hcye] at m8
  have start' : Hid (Cp w (w.alloc (.cells #[.slice none 0 0, .slice (some ⟨br, 0, none⟩) 16384 16384, .slice (some ⟨bs, 0, none⟩) 3072 3072, .int .u8 ch, .int .u8 pd, .int .u16 pi, .int .u8 vo, .int .u16 ti, .int .i64 cy, .slice ta tn tc] 80)) M l 0 (fun _ => 0) (.slice none 0 0) (.slice (some ⟨br, 0, none⟩) 16384 16384) (.slice (some ⟨bs, 0, none⟩) 3072 3072) (.slice ta tn tc)) := by
    rw [hche, hpde, hpie, hvoe, htie, hcye]; exact start
  clear H hrow start hche hpde hpie hvoe htie hcye
  go_enter Try.func33, Try.ntmps33
  go_wp2_with (fail)
  go_loopw [15] (fun i wr => ∃ k : Nat, k ≤ l.length ∧ i = .int .i64 k ∧ ∃ bx bv, Hid (Cp w wr M l k bx bv (.slice (some ⟨br, 0, none⟩) 16384 16384) (.slice (some ⟨bs, 0, none⟩) 3072 3072) (.slice ta tn tc))) (fun i _ => l.length - (intOf i).toNat)
  case atStart => exact ⟨0, Nat.zero_le _, rfl, _, _, start'⟩
  case round =>
    obtain ⟨k, hk, rfl, bx, bv, hrel⟩ := hrel
    obtain ⟨ba, bn, bc, rfl⟩ : ∃ a n c, bv = .slice a n c := by
      rcases hrel.out.row.2 with ⟨rfl, _⟩ | ⟨q, cap, cur, rfl, _⟩
      · exact ⟨_, _, _, rfl⟩
      · exact ⟨_, _, _, rfl⟩
    clear m0 m1 m2 m3 m4 m5 m6 m7 m8 m9 mf
    by_cases hlt : k < l.length
    · obtain ⟨ab, ao, rfl, hab, r1, r2⟩ := CE.out k hlt
      have hbw : Below w.heap.size w wr := hrel.out.below
      have c0 : wr.cell? ⟨ab, ao + k * 2, none⟩ = some (.int .i64 (l.getD k 0)) := (hbw.cell (p := ⟨ab, ao + k * 2, none⟩) hab).trans r1
      have c1 : wr.cell? ⟨ab, ao + k * 2 + 1, none⟩ = some (.slice (some ⟨bx0 k, 0, none⟩) 16384 16384) := (hbw.cell (p := ⟨ab, ao + k * 2 + 1, none⟩) hab).trans r2
      obtain ⟨nm, hnm⟩ : ∃ nm, nm = l.getD k 0 := ⟨_, rfl⟩
      rw [← hnm] at c0
      obtain ⟨gd, hgd, hbuf⟩ := HH.out.bank k hlt
      have hx0 : bx0 k < w.heap.size := HH.out.lt _ (HH.out.sx k hlt)
      have hsz := hbw.size
      obtain ⟨xs, hxs⟩ : ∃ xs, xs = rowCells l bx k := ⟨_, rfl⟩
      have b0 : Below w.heap.size w (wr.alloc (.cells #[.int .i64 nm, .slice (some ⟨bx0 k, 0, none⟩) 16384 16384] 37)).drew := (hbw.alloc hsz _).drew
      have e0 : (wr.alloc (.cells #[.int .i64 nm, .slice (some ⟨bx0 k, 0, none⟩) 16384 16384] 37)).drew.heap.size = wr.heap.size + 1 := by show (wr.alloc _).heap.size = _; simp
      have fl : Calls Try.prog 44 #[.slice (some ⟨bx0 k, 0, none⟩) 16384 16384, .int .i64 16384] (wr.alloc (.cells #[.int .i64 nm, .slice (some ⟨bx0 k, 0, none⟩) 16384 16384] 37)).drew fun e w1 => e = .returned (.slice (some ⟨wr.heap.size + 1, 0, none⟩) 16384 16384) ∧
          w1.cell? ⟨w.heap.size, 0, none⟩ = some (.slice ba bn bc) ∧ (w1.alloc (.cells #[.int .i64 nm, .slice (some ⟨wr.heap.size + 1, 0, none⟩) 16384 16384] 37)).cell? ⟨w.heap.size, 0, none⟩ = some (.slice ba bn bc) ∧
          (w1.cell? ⟨wr.heap.size, 0, none⟩ = some (.int .i64 nm) ∧ w1.cell? ⟨wr.heap.size, 1, none⟩ = some (.slice (some ⟨bx0 k, 0, none⟩) 16384 16384)) ∧
          Hid ((w1.alloc (.cells #[.int .i64 nm, .slice (some ⟨wr.heap.size + 1, 0, none⟩) 16384 16384] 37)).cell? ⟨wr.heap.size, 0, none⟩ = some (.int .i64 nm) ∧ (w1.alloc (.cells #[.int .i64 nm, .slice (some ⟨wr.heap.size + 1, 0, none⟩) 16384 16384] 37)).cell? ⟨wr.heap.size, 1, none⟩ = some (.slice (some ⟨bx0 k, 0, none⟩) 16384 16384)) ∧
          Hid ((w1.alloc (.cells #[.int .i64 nm, .slice (some ⟨wr.heap.size + 1, 0, none⟩) 16384 16384] 37)).ownsRow (w.heap.size + 1) 37 2 (.slice ba bn bc) k xs) ∧ w.heap.size + 1 ≤ w1.heap.size ∧
          Hid (∀ j u, ([.int .i64 nm, .slice (some ⟨wr.heap.size + 1, 0, none⟩) 16384 16384] : List Value)[j]? = some u → (w1.alloc (.cells #[.int .i64 nm, .slice (some ⟨wr.heap.size + 1, 0, none⟩) 16384 16384] 37)).cell? ((⟨w1.heap.size, 0, none⟩ : Addr).add j) = some u) ∧
          Hid (∀ v' w3, (w1.alloc (.cells #[.int .i64 nm, .slice (some ⟨wr.heap.size + 1, 0, none⟩) 16384 16384] 37)).grownBy w3 (Value.slice ba bn bc).ownBlock → w3.ownsRow (w.heap.size + 1) 37 2 v' (k + 1) (xs ++ [.int .i64 nm, .slice (some ⟨wr.heap.size + 1, 0, none⟩) 16384 16384]) →
            w3.cell? ⟨w.heap.size, 0, none⟩ = some (.slice ba bn bc) ∧ w3.frozen? ⟨w.heap.size, 0, none⟩ = false ∧ (w3.cell? ⟨wr.heap.size, 0, none⟩ = some (.int .i64 nm) ∧ w3.cell? ⟨wr.heap.size, 1, none⟩ = some (.slice (some ⟨bx0 k, 0, none⟩) 16384 16384)) ∧
            ((w3.setCell ⟨w.heap.size, 0, none⟩ v').cell? ⟨wr.heap.size, 0, none⟩ = some (.int .i64 nm) ∧ (w3.setCell ⟨w.heap.size, 0, none⟩ v').cell? ⟨wr.heap.size, 1, none⟩ = some (.slice (some ⟨bx0 k, 0, none⟩) 16384 16384)) ∧
            Cp w (w3.setCell ⟨w.heap.size, 0, none⟩ v') M l (k + 1) (fun i => if i = k then wr.heap.size + 1 else bx i) v' (.slice (some ⟨br, 0, none⟩) 16384 16384) (.slice (some ⟨bs, 0, none⟩) 3072 3072) (.slice ta tn tc)) := by
        have hb0 : Buf (wr.alloc (.cells #[.int .i64 nm, .slice (some ⟨bx0 k, 0, none⟩) 16384 16384] 37)).drew (bx0 k) 16384 gd := hbuf.keep (b0.block _ hx0)
        refine (fullBuf hb0 (Nat.le_refl _)).mono ?_
        rintro e w1 ⟨rfl, hbf, hb⟩
        rw [e0] at hb hbf
        obtain ⟨⟨q1, q2⟩, q3, q4, q5, q6, q7, q8⟩ := hrel.out.round hb hgd hbf hnm _ rfl
        rw [← hxs] at q5 q8
        exact ⟨by rw [e0], q1, q2, q3, q4, q5, q6, q7, q8⟩
      have FL := Lib.hid fl
      have t0 : (wr.alloc (.cells #[.int .i64 nm, .slice (some ⟨bx0 k, 0, none⟩) 16384 16384] 37)).drew.cell? ⟨wr.heap.size, 0, none⟩ = some (.int .i64 nm) ∧ (wr.alloc (.cells #[.int .i64 nm, .slice (some ⟨bx0 k, 0, none⟩) 16384 16384] 37)).drew.cell? ⟨wr.heap.size, 1, none⟩ = some (.slice (some ⟨bx0 k, 0, none⟩) 16384 16384) := by
        have hW : (wr.alloc (.cells #[.int .i64 nm, .slice (some ⟨bx0 k, 0, none⟩) 16384 16384] 37)).drew.heap[wr.heap.size]? = some (.cells #[.int .i64 nm, .slice (some ⟨bx0 k, 0, none⟩) 16384 16384] 37 (0, 0)) := heap_alloc_at wr _
        exact ⟨by rw [cell_of hW]; rfl, by rw [cell_of hW]; rfl⟩
      have T0 := Lib.hid t0
      have x0 : wr.cell? ⟨w.heap.size, 0, none⟩ = some (.slice ba bn bc) := (cells10 hrel.out.obj).1
      have x1 : (wr.alloc (.cells #[.int .i64 nm, .slice (some ⟨bx0 k, 0, none⟩) 16384 16384] 37)).cell? ⟨w.heap.size, 0, none⟩ = some (.slice ba bn bc) := by
        have hl := hrel.out.lt
        rw [World.cell?_of_block (w := wr) (Below.heap_alloc _ _ _ hl)]; exact x0
      clear fl t0 hnm hgd hbuf r1 r2 b0 e0 hbw hxs hx0
      go_wp2_with (fail)
      go_region_law (first
        | (go_simp; go_at_call 44; refine FL.out.mono ?_; rintro e w1 ⟨rfl, y1, y2, ⟨T1, T1b⟩, T2, HV, hsz1, HNW, AP⟩; dsimp only)
        | (refine step_append_lies _ rfl (.tmp 20) (.tmp 27) 22 rfl (w.heap.size + 1) 37 i1 _ 2 32 Try.underlying22 hj hy0 hy1 hy2 rfl (by decide) (.slice ba bn bc) k xs (by simp [Act.eval]) HV.out ⟨w1.heap.size, 0, none⟩ 1 1 [.int .i64 nm, .slice (some ⟨wr.heap.size + 1, 0, none⟩) 16384 16384] (by simp [Act.eval]) rfl HNW.out (by simp [Value.oneCell']) (by decide) (by simp only [maxLen]; omega) (by omega) (by simp; omega) _ rfl ?_; intro q qc w3 ho hg hat hlt'; obtain ⟨y3, yf3, T3', T4', R'⟩ := AP.out _ w3 hg ho; have RR := Lib.hid R'; clear ho hg hat hlt' T3' T4' R'))
      all_goals
        go_wp2_with (fail)
        go_roundw
        case rel => exact ⟨k + 1, hlt, by go_num, _, _, RR⟩
        case measure => simp [intOf]; omega
    · obtain rfl : k = l.length := by omega
      have hbw := hrel.out.below
      have mw := CM.out wr hbw
      obtain ⟨n0, n1, n2, n3, n4, n5, n6, n7, n8, n9, nf⟩ := cells10 mw
      have rb : Buf wr br 16384 M.ram := HH.out.ram.keep (hbw.block _ (HH.out.lt _ HH.out.sr))
      have RB := Lib.hid rb
      have HX : Hid (∀ i, i < l.length → bx i < wr.heap.size) := fun i hi => by
        obtain ⟨g, _, ⟨cs, e, _⟩, _⟩ := hrel.out.dat i hi
        exact heap_lt e
      clear mw rb hbw hlt hk
      go_wp2_with (fail)
      refine (fullBuf RB.out (Nat.le_refl _)).mono ?_
      rintro e w1 ⟨rfl, bf1, b1⟩
      have r1 := hrel.out.next b1
      have r1' := r1.set 1 (.slice (some ⟨wr.heap.size, 0, none⟩) 16384 16384) (bv' := .slice ba bn bc) (rv' := .slice (some ⟨wr.heap.size, 0, none⟩) 16384 16384) (sv' := .slice (some ⟨bs, 0, none⟩) 3072 3072) (tv' := .slice ta tn tc) rfl r1.row r1.dat r1.inj
      obtain ⟨x0, x1, x2, x3, x4, x5, x6, x7, x8, x9, xf⟩ := cells10 r1.obj
      have R1 := Lib.hid r1'
      have BF1 : Hid (Buf (w1.setCell ⟨w.heap.size, 1, none⟩ (.slice (some ⟨wr.heap.size, 0, none⟩) 16384 16384)) wr.heap.size 16384 M.ram) := bf1.far _ (by have := hrel.out.lt; omega)
      have mw1 := CM.out _ r1'.below
      obtain ⟨o0, o1, o2, o3, o4, o5, o6, o7, o8, o9, of⟩ := cells10 mw1
      have SB : Hid (Buf (w1.setCell ⟨w.heap.size, 1, none⟩ (.slice (some ⟨wr.heap.size, 0, none⟩) 16384 16384)) bs 3072 M.scr) := HH.out.scr.keep (r1'.below.block _ (HH.out.lt _ HH.out.ss))
      clear b1 r1 r1' mw1 n0 n1 n2 n3 n4 n5 n6 n7 n8 n9 nf RB bf1
      go_wp2_with (fail)
      have es : (w1.setCell ⟨w.heap.size, 1, none⟩ (.slice (some ⟨wr.heap.size, 0, none⟩) 16384 16384)).heap.size = w1.heap.size := by simp [World.setCell]
      refine (fullBuf SB.out (by omega)).mono ?_
      rintro e w2 ⟨he, bf2, b2⟩
      rw [es] at he bf2
      subst he
      have r2 := R1.out.next b2
      have r2' := r2.set 2 (.slice (some ⟨w1.heap.size, 0, none⟩) 3072 3072) (bv' := .slice ba bn bc) (rv' := .slice (some ⟨wr.heap.size, 0, none⟩) 16384 16384) (sv' := .slice (some ⟨w1.heap.size, 0, none⟩) 3072 3072) (tv' := .slice ta tn tc) rfl r2.row r2.dat r2.inj
      obtain ⟨y0, y1, y2, y3, y4, y5, y6, y7, y8, y9, yf⟩ := cells10 r2.obj
      have hw0 := hrel.out.lt
      have hw1 : wr.heap.size < w1.heap.size := by
        obtain ⟨cs, e, _⟩ := BF1.out
        have := heap_lt e
        rw [es] at this; exact this
      have BF1' : Buf (w2.setCell ⟨w.heap.size, 2, none⟩ (.slice (some ⟨w1.heap.size, 0, none⟩) 3072 3072)) wr.heap.size 16384 M.ram := (BF1.out.keep (b2.block _ (by rw [es]; exact hw1))).far _ (by omega)
      have BF2' : Buf (w2.setCell ⟨w.heap.size, 2, none⟩ (.slice (some ⟨w1.heap.size, 0, none⟩) 3072 3072)) w1.heap.size 3072 M.scr := bf2.far _ (by omega)
      have es2 : (w2.setCell ⟨w.heap.size, 2, none⟩ (.slice (some ⟨w1.heap.size, 0, none⟩) 3072 3072)).heap.size = w2.heap.size := by simp [World.setCell]
      have FIN : Hid (∀ (w5 : World) (v' : Value), Upd ((w2.setCell ⟨w.heap.size, 2, none⟩ (.slice (some ⟨w1.heap.size, 0, none⟩) 3072 3072)).alloc (.cells #[] 92)) w5 (fun i => i = w2.heap.size) → w5.ownsRow w2.heap.size 92 3 v' M.tones.length (toneCells M.tones) →
          (w5.cell? ⟨w.heap.size, 9, none⟩ = some (.slice ta tn tc) ∧ w5.frozen? ⟨w.heap.size, 9, none⟩ = false) ∧ CopyPost w M (w5.setCell ⟨w.heap.size, 9, none⟩ v')) := fun w5 v' hu ho =>
        r2'.fin HH.out.ok HH.out.asc HH.out.has HH.out.small BF1' BF2' hw1 hw0 HX.out (by rw [es2]; exact hu) (by rw [es2]; exact ho)
      have ba2 : Below (w2.setCell ⟨w.heap.size, 2, none⟩ (.slice (some ⟨w1.heap.size, 0, none⟩) 3072 3072)).heap.size (w2.setCell ⟨w.heap.size, 2, none⟩ (.slice (some ⟨w1.heap.size, 0, none⟩) 3072 3072)) ((w2.setCell ⟨w.heap.size, 2, none⟩ (.slice (some ⟨w1.heap.size, 0, none⟩) 3072 3072)).alloc (.cells #[] 92)) := (Below.refl _ _).alloc (Nat.le_refl _) _
      have r3 := r2'.next ba2
      have mw3 := CM.out _ r3.below
      have p9 := (cells10 mw3).2.2.2.2.2.2.2.2.2.1
      have own0 : Hid (((w2.setCell ⟨w.heap.size, 2, none⟩ (.slice (some ⟨w1.heap.size, 0, none⟩) 3072 3072)).alloc (.cells #[] 92)).ownsRow w2.heap.size 92 3 (.slice (some ⟨w2.heap.size, 0, none⟩) 0 0) 0 []) := by
        have h := World.ownsRow_made (w2.setCell ⟨w.heap.size, 2, none⟩ (.slice (some ⟨w1.heap.size, 0, none⟩) 3072 3072)) #[] 0 (e := 92) (size := 3) (base := w2.heap.size) (by rw [es2]; exact Nat.le_refl _) (by simp [maxLen]) (by simp)
        rw [es2] at h; exact h
      have htl := HH.out.tones.2
      have hb3 := Lib.hid r3.below
      clear b2 r2 r2' R1 x0 x1 x2 x3 x4 x5 x6 x7 x8 x9 xf mw3 r3 ba2 BF1 BF1' BF2' bf2 SB hw0 hw1 HX o0 o1 o2 o3 o4 o5 o6 o7 o8 o9 of hrel start' CE CM
      rcases htl with ⟨et, e0⟩ | ⟨gt, cap, cur, et, _, hh, hc1, hc2, hc3, hc4⟩
      · cases et
        have hnil : M.tones = [] := List.eq_nil_of_length_eq_zero e0
        obtain ⟨⟨z9, zf⟩, hfin⟩ := FIN.out _ (.slice (some ⟨w2.heap.size, 0, none⟩) 0 0) (Upd.refl _ _) (by rw [hnil]; exact own0.out)
        have F := Lib.hid hfin
        clear hfin FIN hb3 hnil e0
        go_wp2_with (at_builtin; refine wpList_append_own_none rfl _ _ 55 rfl w2.heap.size 92 i0 3 Try.underlying55 hi _ 0 [] rfl own0.out rfl ?_)
        go_ret
        exact ⟨rfl, F.out⟩
      · cases et
        have Hn : Hid (∀ j u, (toneCells M.tones)[j]? = some u → ((w2.setCell ⟨w.heap.size, 2, none⟩ (.slice (some ⟨w1.heap.size, 0, none⟩) 3072 3072)).alloc (.cells #[] 92)).cell? ((⟨gt, 0, none⟩ : Addr).add j) = some u) := by
          intro j u hj
          rw [add_plain', Nat.zero_add]
          have : ((w2.setCell ⟨w.heap.size, 2, none⟩ (.slice (some ⟨w1.heap.size, 0, none⟩) 3072 3072)).alloc (.cells #[] 92)).heap[gt]? = some (.cells cur 92 (0, 0)) := (hb3.out.block _ (heap_lt hh)).trans hh
          rw [cell_of this, ← Array.getElem?_toList]
          rw [← hc4, List.getElem?_take] at hj
          split at hj
          · exact hj
          · cases hj
        have H1 := Lib.hid (toneCells_one M.tones)
        have HL := Lib.hid (toneCells_length M.tones)
        have F : Hid (∀ (v' : Value) (w5 : World), w5.ownsRow w2.heap.size 92 3 v' (0 + M.tones.length) ([] ++ toneCells M.tones) → ((w2.setCell ⟨w.heap.size, 2, none⟩ (.slice (some ⟨w1.heap.size, 0, none⟩) 3072 3072)).alloc (.cells #[] 92)).grownBy w5 (some w2.heap.size) →
            (w5.cell? ⟨w.heap.size, 9, none⟩ = some (.slice (some ⟨gt, 0, none⟩) M.tones.length tc) ∧ w5.frozen? ⟨w.heap.size, 9, none⟩ = false) ∧ Hid (CopyPost w M (w5.setCell ⟨w.heap.size, 9, none⟩ v'))) := fun v' w5 ho hg =>
          FIN.out w5 v' ((Upd.of_grown hg).mono (fun i _ e => by cases e; rfl)) (by simpa using ho)
        clear FIN hb3 hh hc1 hc2 hc3 hc4
        go_wp2_with (at_builtin; refine wpList_append_own _ rfl _ _ 55 rfl w2.heap.size 92 i0 _ 3 16 Try.underlying55 hi hz0 hz1 hz2 rfl (by decide) _ 0 [] rfl own0.out ⟨gt, 0, none⟩ M.tones.length tc (toneCells M.tones) rfl HL.out Hn.out H1.out (by simp only [maxLen]; omega) (by omega) (by simp) ?_; intro v' w5 ho hgr _; obtain ⟨q1, q2, q3, rfl⟩ := slice_of ho; obtain ⟨⟨z9, zf⟩, F1⟩ := F.out _ w5 ho hgr; clear ho hgr)
        go_ret
        exact ⟨rfl, F1.out⟩
end Go.Proofs.Ytabeljpnmmfpgaa
