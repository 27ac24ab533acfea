/-
  (*mem.Memory).Image.
  Image: the loop's relation.
  Image: what stands behind the clone of a round's bank.
-/
import Derived.Test.YtabeljpnmmfpgaaMemApart1
import Derived.Test.YtabeljpnmmfpgaaMemScreen
import Derived.Test.YtabeljpnmmfpgaaMemFull
import Derived.Test.YtabeljpnmmfpgaaKeysOf
import Derived.Deep.DeepCutAuto
namespace Go.Proofs.Ytabeljpnmmfpgaa
open Go.RowKit Go.MapKept
set_option linter.unusedVariables false
set_option linter.unusedSimpArgs false

theorem MemAt.stays {w w' : World} {b : Nat} {M : Mm} {S : Nat → Prop} {cs : Array Value} {bm : Nat} {es : Array MapEntry} {clk : Nat} {bf : Int → Option Nat} {tv : Value} (H : MemAt w b M S cs bm es clk bf tv) (hs : ∀ i, S i → w'.heap[i]? = w.heap[i]?) : MemAt w' b M S cs bm es clk bf tv := by
  refine { H with blk := ?_, map := ?_, bank := ?_, tones := ?_, lt := ?_ }
  · rw [hs b H.sb]; exact H.blk
  · rw [hs bm H.sm]; exact H.map
  · intro n x hx
    obtain ⟨bs, g, h1, h2, h3⟩ := H.bank n x hx
    exact ⟨bs, g, h1, by rw [hs x (H.sx n x hx)]; exact h2, h3⟩
  · exact ownsRow_heap H.tones (fun k hk => hs k (H.st k hk))
  · intro i hi
    have := H.lt i hi
    have h2 := hs i hi
    rw [Array.getElem?_eq_getElem this] at h2
    exact (Array.getElem?_eq_some_iff.1 h2).1
theorem MemAt.below {w w' : World} {b : Nat} {M : Mm} {S : Nat → Prop} {cs : Array Value} {bm : Nat} {es : Array MapEntry} {clk : Nat} {bf : Int → Option Nat} {tv : Value} (H : MemAt w b M S cs bm es clk bf tv) (h : Below w.heap.size w w') : MemAt w' b M S cs bm es clk bf tv :=
  H.stays (fun i hi => h.block i (H.lt i hi))
theorem MemAt.ramBytes {w : World} {b : Nat} {M : Mm} {S : Nat → Prop} {cs : Array Value} {bm : Nat} {es : Array MapEntry} {clk : Nat} {bf : Int → Option Nat} {tv : Value} (h : MemAt w b M S cs bm es clk bf tv) : BytesIn w (.slice (some ⟨b, 1, none⟩) 16384 16384) (bytesOf M.ram 16384) := by
  refine ⟨_, _, by rw [bytesOf_length], (fun e => by cases e), fun _ => ⟨b, 1, rfl, fun j hj => ?_⟩⟩
  rw [bytesOf_length] at hj
  rw [h.at_ (1 + j) (by omega), M.cell_ram bm tv hj, bytesOf_at _ _ _ hj]
theorem MemAt.bankBytes {w : World} {b : Nat} {M : Mm} {S : Nat → Prop} {cs : Array Value} {bm : Nat} {es : Array MapEntry} {clk : Nat} {bf : Int → Option Nat} {tv : Value} (h : MemAt w b M S cs bm es clk bf tv) {n : Int} {x : Nat} (hx : bf n = some x) :
    ∃ g, M.bank n = some g ∧ BytesIn w (.slice (some ⟨x, 0, none⟩) 16384 16384) (bytesOf g 16384) := by
  obtain ⟨bs, g, h1, h2, h3, h4⟩ := h.bank n x hx
  refine ⟨g, h1, _, _, by rw [bytesOf_length], (fun e => by cases e), fun _ => ⟨x, 0, rfl, fun j hj => ?_⟩⟩
  rw [bytesOf_length] at hj
  rw [Nat.zero_add, cell_of h2, h4 j hj, bytesOf_at _ _ _ hj]

def zImg : Array Value := #[.slice none 0 0, .slice none 0 0, .slice none 0 0, .int .u8 0, .int .u8 0, .int .u16 0, .int .u8 0, .int .u16 0]

/-- The result's block and, once it is made, the block of x. -/
structure MkO (w W : World) (ox : Option Nat) : Prop where
  below : Below w.heap.size w W
  obj : W.heap[w.heap.size]? = some (.cells zImg 49 (0, 0))
  x : ∀ X, ox = some X → w.heap.size < X ∧ W.heap[X]? = some (.cells zImg 49 (0, 0))
theorem MkO.start (w : World) : MkO w (w.alloc (.cells zImg 49)) none :=
  ⟨(Below.refl _ _).alloc (Nat.le_refl _) _, heap_alloc_at w _, fun X h => by cases h⟩
theorem MkO.lt {w W : World} {ox : Option Nat} (h : MkO w W ox) : w.heap.size < W.heap.size := (Array.getElem?_eq_some_iff.1 h.obj).1
theorem MkO.next {w W W' : World} {ox : Option Nat} (h : MkO w W ox) (hb : Below W.heap.size W W') : MkO w W' ox := by
  have := h.lt
  refine ⟨h.below.trans (hb.mono h.below.size), (hb.block _ (by omega)).trans h.obj, fun X e => ?_⟩
  obtain ⟨h1, h2⟩ := h.x X e
  exact ⟨h1, (hb.block _ (Array.getElem?_eq_some_iff.1 h2).1).trans h2⟩
theorem MkO.addX {w W : World} (h : MkO w W none) : MkO w (W.alloc (.cells zImg 49)) (some W.heap.size) := by
  have h2 := h.next ((Below.refl _ _).alloc (Nat.le_refl _) (.cells zImg 49))
  exact ⟨h2.below, h2.obj, fun X e => by cases e; exact ⟨h.lt, heap_alloc_at W _⟩⟩
/-- v lies in a block of type t, behind w. -/
def Blk0 (w W : World) (t : TypeId) (v : Value) : Prop := ∀ b o n c, v = .slice (some ⟨b, o, none⟩) n c → w.heap.size < b ∧ ∃ cs z, W.heap[b]? = some (.cells cs t z)
theorem Blk0.below {w W W' : World} {t : TypeId} {v : Value} (h : Blk0 w W t v) (hb : Below W.heap.size W W') : Blk0 w W' t v := fun b o n c e => by
  obtain ⟨h1, cs, z, h2⟩ := h b o n c e
  exact ⟨h1, cs, z, (hb.block _ (Array.getElem?_eq_some_iff.1 h2).1).trans h2⟩
/-- .. and the slice lies at the block's head, its room in it. -/
def Blk (w W : World) (t : TypeId) (v : Value) : Prop := ∀ b o n c, v = .slice (some ⟨b, o, none⟩) n c → w.heap.size < b ∧ ∃ (cs : Array Value) (z : Nat × Nat), W.heap[b]? = some (.cells cs t z) ∧ o = 0 ∧ z = (0, 0) ∧ n ≤ c ∧ c ≤ cs.size
theorem Blk.below {w W W' : World} {t : TypeId} {v : Value} (h : Blk w W t v) (hb : Below W.heap.size W W') : Blk w W' t v := fun b o n c e => by
  obtain ⟨h1, cs, z, h2, h3⟩ := h b o n c e
  exact ⟨h1, cs, z, (hb.block _ (Array.getElem?_eq_some_iff.1 h2).1).trans h2, h3⟩
theorem Blk.of_own {w w0 W : World} {t : TypeId} {n : Nat} {v : Value} {xs : List Value} (h : W.ownsRow w0.heap.size t 1 v n xs) (hw : w.heap.size < w0.heap.size) : Blk w W t v := by
  rintro b o n' c rfl
  have h1 := (h.lt b rfl).1
  rcases h.2 with ⟨e, _⟩ | ⟨g, cap, cur, e, _, hh, hnc, _, hcs, _⟩
  · cases e
  · cases e; exact ⟨by omega, _, _, hh, rfl, rfl, hnc, by omega⟩

theorem BytesIn.keptOff {w w' : World} {X : Nat} (hk : ∀ b o, b ≠ X → w'.cell? ⟨b, o, none⟩ = w.cell? ⟨b, o, none⟩) {v : Value} {l : List Int} (h : BytesIn w v l) (hf : ∀ b o n c, v = .slice (some ⟨b, o, none⟩) n c → b ≠ X) : BytesIn w' v l := by
  obtain ⟨a, c, rfl, hn, h2⟩ := h
  refine ⟨a, c, rfl, hn, fun hl => ?_⟩
  obtain ⟨b, o, rfl, h4⟩ := h2 hl
  exact ⟨b, o, rfl, fun j hj => by rw [hk _ _ (hf _ _ _ _ rfl)]; exact h4 j hj⟩

def xImg (M : Mm) (b r s : Value) : Array Value := #[b, r, s, .int .u8 M.chosen, .int .u8 M.pad, .int .u16 M.pitch, .int .u8 M.volume, .int .u16 M.time]
/-- x as it stands before its banks are laid in, and between. -/
structure ImgAt (w W : World) (M : Mm) (X : Nat) (b r s : Value) : Prop where
  below : Below w.heap.size w W
  obj : W.heap[w.heap.size]? = some (.cells zImg 49 (0, 0))
  lt : w.heap.size < X
  x : W.heap[X]? = some (.cells (xImg M b r s) 49 (0, 0))
  ram : BytesIn W r (bytesOf M.ram 16384)
  ramB : Blk w W 5 r
  scr : BytesIn W s (bytesOf M.scr 3072)
  scrB : Blk w W 85 s

theorem ImgAt.fresh {w W : World} {M : Mm} {r s : Value} (h : MkO w W none) (hr : BytesIn W r (bytesOf M.ram 16384)) (hrb : Blk w W 5 r) (hs : BytesIn W s (bytesOf M.scr 3072)) (hsb : Blk w W 85 s) :
    ImgAt w (W.alloc (.cells (xImg M (.slice none 0 0) r s) 49)) M W.heap.size (.slice none 0 0) r s := by
  have hb : Below W.heap.size W (W.alloc (.cells (xImg M (.slice none 0 0) r s) 49)) := (Below.refl _ _).alloc (Nat.le_refl _) _
  have h2 := h.next hb
  exact ⟨h2.below, h2.obj, h.lt, heap_alloc_at W _, hr.below hb, hrb.below hb, hs.below hb, hsb.below hb⟩

theorem ImgAt.stored {w W : World} {M : Mm} {X : Nat} {r s : Value} (h : MkO w W (some X)) (hr : BytesIn W r (bytesOf M.ram 16384)) (hrb : Blk w W 5 r) (hs : BytesIn W s (bytesOf M.scr 3072)) (hsb : Blk w W 85 s) :
    ImgAt w ((((((((W.setCell ⟨X, 0, none⟩ (.slice none 0 0)).setCell ⟨X, 1, none⟩ r).setCell ⟨X, 2, none⟩ s).setCell ⟨X, 3, none⟩ (.int .u8 M.chosen)).setCell ⟨X, 4, none⟩ (.int .u8 M.pad)).setCell ⟨X, 5, none⟩ (.int .u16 M.pitch)).setCell ⟨X, 6, none⟩ (.int .u8 M.volume)).setCell ⟨X, 7, none⟩ (.int .u16 M.time)) M X (.slice none 0 0) r s := by
  obtain ⟨hX, hXb⟩ := h.x X rfl
  have off : ∀ {t : TypeId} {v : Value}, t ≠ 49 → Blk w W t v → ∀ b o n c, v = .slice (some ⟨b, o, none⟩) n c → b ≠ X := by
    intro t v ht hv b o n c e
    obtain ⟨_, cs, z, h2, _⟩ := hv b o n c e
    rintro rfl
    rw [hXb] at h2
    cases h2
    exact ht rfl
  obtain ⟨w4, hw4⟩ : ∃ w4, w4 = ((((((((W.setCell ⟨X, 0, none⟩ (.slice none 0 0)).setCell ⟨X, 1, none⟩ r).setCell ⟨X, 2, none⟩ s).setCell ⟨X, 3, none⟩ (.int .u8 M.chosen)).setCell ⟨X, 4, none⟩ (.int .u8 M.pad)).setCell ⟨X, 5, none⟩ (.int .u16 M.pitch)).setCell ⟨X, 6, none⟩ (.int .u8 M.volume)).setCell ⟨X, 7, none⟩ (.int .u16 M.time)) := ⟨_, rfl⟩
  have ob := heap_set_cell (heap_set_cell (heap_set_cell (heap_set_cell (heap_set_cell (heap_set_cell (heap_set_cell (heap_set_cell hXb 0 (.slice none 0 0)) 1 r) 2 s) 3 (.int .u8 M.chosen)) 4 (.int .u8 M.pad)) 5 (.int .u16 M.pitch)) 6 (.int .u8 M.volume)) 7 (.int .u16 M.time)
  have hbl := ((((((((h.below.setCell (p := ⟨X, 0, none⟩) (by simp; omega) (.slice none 0 0)).setCell (p := ⟨X, 1, none⟩) (by simp; omega) r).setCell (p := ⟨X, 2, none⟩) (by simp; omega) s).setCell (p := ⟨X, 3, none⟩) (by simp; omega) (.int .u8 M.chosen)).setCell (p := ⟨X, 4, none⟩) (by simp; omega) (.int .u8 M.pad)).setCell (p := ⟨X, 5, none⟩) (by simp; omega) (.int .u16 M.pitch)).setCell (p := ⟨X, 6, none⟩) (by simp; omega) (.int .u8 M.volume)).setCell (p := ⟨X, 7, none⟩) (by simp; omega) (.int .u16 M.time))
  have hk : ∀ b o, b ≠ X → w4.cell? ⟨b, o, none⟩ = W.cell? ⟨b, o, none⟩ := by
    intro b o hb
    have hne : ¬ X = b := fun e => hb e.symm
    rw [hw4]
    iterate 8 rw [World.cell?_setCell_other _ _ _ _ (by simp [hne])]
  have hh : ∀ b, b ≠ X → w4.heap[b]? = W.heap[b]? := by
    intro b hb
    rw [hw4]
    iterate 8 rw [heap_set_far hb]
  rw [← hw4] at ob hbl ⊢
  have kb : ∀ {t : TypeId} {v : Value}, t ≠ 49 → Blk w W t v → Blk w w4 t v := fun {t v} ht hv b o n c e => by
    obtain ⟨h1, cs, z, h2, h3⟩ := hv b o n c e
    exact ⟨h1, cs, z, (hh b (off ht hv b o n c e)).trans h2, h3⟩
  exact ⟨hbl, (hh _ (by omega)).trans h.obj, hX, ob, hr.keptOff hk (off (by decide) hrb), kb (by decide) hrb, hs.keptOff hk (off (by decide) hsb), kb (by decide) hsb⟩

def ImgPost (w : World) (M : Mm) (e : Ending) (w' : World) : Prop :=
  ∃ (ss : List Int) (gs : Int → Nat → Int) (b r s : Value) (dv : Nat → Value), ss.Pairwise (fun x y => x < y) ∧ (∀ x, x ∈ ss ↔ (M.bank x).isSome = true) ∧ (∀ x, x ∈ ss → M.bank x = some (gs x)) ∧
    e = .returned (.agg #[b, r, s, .int .u8 M.chosen, .int .u8 M.pad, .int .u16 M.pitch, .int .u8 M.volume, .int .u16 M.time]) ∧
    BanksIn w' b (ss.map fun n => (n, bytesOf (gs n) 16384)) dv ∧ BytesIn w' r (bytesOf M.ram 16384) ∧ BytesIn w' s (bytesOf M.scr 3072) ∧ Below w.heap.size w w' ∧ Handed w w' ss.length dv r s

end Go.Proofs.Ytabeljpnmmfpgaa

namespace Go.Proofs.Ytabeljpnmmfpgaa
open Go.RowKit Go.MapKept
set_option linter.unusedVariables false
set_option linter.unusedSimpArgs false

def bankList (ss : List Int) (gs : Int → Nat → Int) : List (Int × List Int) := ss.map fun n => (n, bytesOf (gs n) 16384)

/-- The first k banks of x are laid. -/
structure BkRel (w W : World) (M : Mm) (X : Nat) (l : List (Int × List Int)) (kv : Value) (ks : List Int) (k : Nat) (bv r s : Value) (g c : Nat → Nat) : Prop where
  img : ImgAt w W M X bv r s
  row : W.ownsRow (w.heap.size + 1) 37 2 bv k (bankCells l g c k)
  data : ∀ i, i < k → BytesIn W (bankSl l g c i) (l.getD i (0, [])).2 ∧ Blk w W 5 (bankSl l g c i)
  keys : BytesIn W kv ks ∧ Blk0 w W 5 kv
  inj : ∀ i j, i < k → j < k → g i = g j → i = j
  offR : ∀ i, i < k → ∀ b o n c, r = .slice (some ⟨b, o, none⟩) n c → g i ≠ b

theorem BkRel.start {w W : World} {M : Mm} {X : Nat} {r s : Value} (h : ImgAt w W M X (.slice none 0 0) r s) (l : List (Int × List Int)) {kv : Value} {ks : List Int} (hkv : BytesIn W kv ks ∧ Blk0 w W 5 kv) : BkRel w W M X l kv ks 0 (.slice none 0 0) r s (fun _ => 0) (fun _ => 0) :=
  ⟨h, World.ownsRow_nil _ _ _ _, (fun i hi => by omega), hkv, (fun i j hi => by omega), (fun i hi => by omega)⟩

theorem ImgAt.next {w W W' : World} {M : Mm} {X : Nat} {bv r s : Value} (h : ImgAt w W M X bv r s) (hb : Below W.heap.size W W') : ImgAt w W' M X bv r s := by
  have hX := (Array.getElem?_eq_some_iff.1 h.x).1
  have hO := (Array.getElem?_eq_some_iff.1 h.obj).1
  exact ⟨h.below.trans (hb.mono h.below.size), (hb.block _ hO).trans h.obj, h.lt, (hb.block _ hX).trans h.x, h.ram.below hb, h.ramB.below hb, h.scr.below hb, h.scrB.below hb⟩
theorem BkRel.next {w W W' : World} {M : Mm} {X : Nat} {l : List (Int × List Int)} {kv : Value} {ks : List Int} {k : Nat} {bv r s : Value} {g c : Nat → Nat} (h : BkRel w W M X l kv ks k bv r s g c) (hb : Below W.heap.size W W') : BkRel w W' M X l kv ks k bv r s g c :=
  ⟨h.img.next hb, ownsRow_heap h.row (fun b hb' => hb.block _ (ownBlock_lt h.row hb')), fun i hi => ⟨(h.data i hi).1.below hb, (h.data i hi).2.below hb⟩, ⟨h.keys.1.below hb, h.keys.2.below hb⟩, h.inj, h.offR⟩

/-- What a step that turns block q alone (a row of banks) or the cell 0 of X leaves. -/
theorem BytesIn.keptBlk {w W W' : World} {t : TypeId} {v : Value} {l : List Int} (h : BytesIn W v l) (hv : Blk w W t v) (hk : ∀ (b : Nat) (cs : Array Value) (z : Nat × Nat), W.heap[b]? = some (Obj.cells cs t z) → W'.heap[b]? = W.heap[b]?) : BytesIn W' v l ∧ Blk w W' t v := by
  have hv' : Blk w W' t v := fun b o n c e => by
    obtain ⟨h1, cs, z, h2, h3⟩ := hv b o n c e
    exact ⟨h1, cs, z, (hk _ _ _ h2).trans h2, h3⟩
  refine ⟨?_, hv'⟩
  obtain ⟨a, c, rfl, hn, h2⟩ := h
  refine ⟨a, c, rfl, hn, fun hl => ?_⟩
  obtain ⟨b, o, rfl, h4⟩ := h2 hl
  obtain ⟨_, cs, z, h5, _⟩ := hv b o _ _ rfl
  exact ⟨b, o, rfl, fun j hj => by rw [← h4 j hj]; simp only [World.cell?, hk _ _ _ h5]⟩

theorem BytesIn.keptBlk0 {w W W' : World} {t : TypeId} {v : Value} {l : List Int} (h : BytesIn W v l) (hv : Blk0 w W t v) (hk : ∀ (b : Nat) (cs : Array Value) (z : Nat × Nat), W.heap[b]? = some (Obj.cells cs t z) → W'.heap[b]? = W.heap[b]?) : BytesIn W' v l ∧ Blk0 w W' t v := by
  have hv' : Blk0 w W' t v := fun b o n c e => by
    obtain ⟨h1, cs, z, h2⟩ := hv b o n c e
    exact ⟨h1, cs, z, (hk _ _ _ h2).trans h2⟩
  refine ⟨?_, hv'⟩
  obtain ⟨a, c, rfl, hn, h2⟩ := h
  refine ⟨a, c, rfl, hn, fun hl => ?_⟩
  obtain ⟨b, o, rfl, h4⟩ := h2 hl
  obtain ⟨_, cs, z, h5⟩ := hv b o _ _ rfl
  exact ⟨b, o, rfl, fun j hj => by rw [← h4 j hj]; simp only [World.cell?, hk _ _ _ h5]⟩

theorem BkRel.step {w W w3 : World} {M : Mm} {X : Nat} {l : List (Int × List Int)} {kv : Value} {ks : List Int} {k : Nat} {bv v' r s : Value} {g c : Nat → Nat} {g' c' : Nat} (h : BkRel w W M X l kv ks k bv r s g c)
    (hd : BytesIn W (.slice (some ⟨g', 0, none⟩) (l.getD k (0, [])).2.length c') (l.getD k (0, [])).2) (hdB : Blk w W 5 (.slice (some ⟨g', 0, none⟩) (l.getD k (0, [])).2.length c')) (hnew : ∀ i, i < k → g i ≠ g') (hnr : ∀ b o n c, r = .slice (some ⟨b, o, none⟩) n c → g' ≠ b)
    (h3 : W.grownBy w3 bv.ownBlock) (hv' : w3.ownsRow (w.heap.size + 1) 37 2 v' (k + 1) (bankCells l g c k ++ [.int .i64 (l.getD k (0, [])).1, .slice (some ⟨g', 0, none⟩) (l.getD k (0, [])).2.length c'])) :
    BkRel w (w3.setCell ⟨X, 0, none⟩ v') M X l kv ks (k + 1) v' r s (fun i => if i = k then g' else g i) (fun i => if i = k then c' else c i) := by
  have hX := (Array.getElem?_eq_some_iff.1 h.img.x).1
  have hO := (Array.getElem?_eq_some_iff.1 h.img.obj).1
  have row : ∀ b, bv.ownBlock = some b → ∃ cs, W.heap[b]? = some (.cells cs 37 (0, 0)) := fun b hb => by
    rcases h.row.2 with ⟨rfl, _⟩ | ⟨q, cap, cur, rfl, _, hh, _⟩
    · simp [Value.ownBlock] at hb
    · simp only [Value.ownBlock, Option.some.injEq] at hb
      subst hb; exact ⟨_, hh⟩
  have old : ∀ (b : Nat) (cs : Array Value) (t : TypeId) (z : Nat × Nat), t ≠ 37 → W.heap[b]? = some (.cells cs t z) → w3.heap[b]? = W.heap[b]? := fun b cs t z ht hb => by
    refine h3.block b (Array.getElem?_eq_some_iff.1 hb).1 (fun e => ?_)
    obtain ⟨cs', h4⟩ := row b e.symm
    rw [hb] at h4
    exact cells_ne ht (Option.some.inj h4)
  have x3 : w3.heap[X]? = some (.cells (xImg M bv r s) 49 (0, 0)) := (old _ _ _ _ (by decide) h.img.x).trans h.img.x
  have far : ∀ (b : Nat) (cs : Array Value) (t : TypeId) (z : Nat × Nat), t ≠ 37 → t ≠ 49 → W.heap[b]? = some (.cells cs t z) → (w3.setCell ⟨X, 0, none⟩ v').heap[b]? = W.heap[b]? := fun b cs t z ht ht2 hb => by
    rw [heap_set_far (fun e => ?_)]
    · exact old _ _ _ _ ht hb
    · subst e
      rw [h.img.x] at hb
      exact cells_ne ht2 (Option.some.inj hb).symm
  have hbel : Below w.heap.size w (w3.setCell ⟨X, 0, none⟩ v') := by
    refine Below.setCell (h.img.below.grown h3 h.img.below.size (fun q hq => ?_)) (by simp; have := h.img.lt; omega) _
    have := (h.row.lt q hq).1
    omega
  have k1 := h.img.ram.keptBlk h.img.ramB (fun b cs z hb => far b cs _ z (by decide) (by decide) hb)
  have k2 := h.img.scr.keptBlk h.img.scrB (fun b cs z hb => far b cs _ z (by decide) (by decide) hb)
  have hOX : w.heap.size ≠ X := by have := h.img.lt; omega
  refine ⟨⟨hbel, ?_, h.img.lt, heap_set_cell x3 0 v', k1.1, k1.2, k2.1, k2.2⟩, ?_, ?_, h.keys.1.keptBlk0 h.keys.2 (fun b cs z hb => far b cs _ z (by decide) (by decide) hb), ?_, ?_⟩
  · rw [heap_set_far hOX, old _ _ _ _ (by decide) h.img.obj]; exact h.img.obj
  · rw [bankCells, bankCells_congr l (g := g) (c := c) (fun i hi => by rw [if_neg (by omega), if_neg (by omega)]; exact ⟨rfl, rfl⟩), bankSl, if_pos rfl, if_pos rfl]
    refine ownsRow_heap hv' (fun b hb => heap_set_far (fun e => ?_))
    subst e
    rcases hv'.2 with ⟨rfl, _⟩ | ⟨q, cap, cur, rfl, _, hh, _⟩
    · simp [Value.ownBlock] at hb
    · simp only [Value.ownBlock, Option.some.injEq] at hb
      subst hb
      rw [x3] at hh
      exact cells_ne (by decide) (Option.some.inj hh)
  · intro i hi
    by_cases e : i = k
    · subst e
      rw [bankSl, if_pos rfl, if_pos rfl]
      exact hd.keptBlk hdB (fun b cs z hb => far b cs _ z (by decide) (by decide) hb)
    · rw [bankSl, if_neg e, if_neg e]
      have := h.data i (by omega)
      exact this.1.keptBlk this.2 (fun b cs z hb => far b cs _ z (by decide) (by decide) hb)
  · intro i j hi hj e
    by_cases e1 : i = k <;> by_cases e2 : j = k
    · omega
    · rw [if_pos e1, if_neg e2] at e; exact absurd e.symm (hnew j (by omega))
    · rw [if_neg e1, if_pos e2] at e; exact absurd e (hnew i (by omega))
    · rw [if_neg e1, if_neg e2] at e; exact h.inj i j (by omega) (by omega) e
  · intro i hi b o n c e
    by_cases e1 : i = k
    · rw [if_pos e1]; exact hnr b o n c e
    · rw [if_neg e1]; exact h.offR i (by omega) b o n c e

theorem bytesOf_isB (f : Nat → Int) (n : Nat) (h : ∀ j, 0 ≤ f j ∧ f j < 256) : IsBytes (bytesOf f n) := by
  intro x hx
  obtain ⟨j, _, rfl⟩ := List.mem_map.1 hx
  exact h j

def ImgEnd (w : World) (M : Mm) (bv r s : Value) (w' : World) : Prop :=
  w'.heap[w.heap.size]? = some (.cells (xImg M bv r s) 49 (0, 0)) ∧ ImgPost w M (.returned (.agg (xImg M bv r s))) w'

set_option maxHeartbeats 1000000 in
theorem BkRel.close {w W : World} {M : Mm} {X : Nat} {ss : List Int} {gs : Int → Nat → Int} {kv : Value} {ks : List Int} {bv r s : Value} {g c : Nat → Nat} (h : BkRel w W M X (bankList ss gs) kv ks ss.length bv r s g c)
    (hp : ss.Pairwise (fun x y => x < y)) (hm : ∀ x, x ∈ ss ↔ (M.bank x).isSome = true) (hg : ∀ x, x ∈ ss → M.bank x = some (gs x)) (hok : M.Ok) :
    ImgEnd w M bv r s ((((((((W.setCell ⟨w.heap.size, 0, none⟩ bv).setCell ⟨w.heap.size, 1, none⟩ r).setCell ⟨w.heap.size, 2, none⟩ s).setCell ⟨w.heap.size, 3, none⟩ (.int .u8 M.chosen)).setCell ⟨w.heap.size, 4, none⟩ (.int .u8 M.pad)).setCell ⟨w.heap.size, 5, none⟩ (.int .u16 M.pitch)).setCell ⟨w.heap.size, 6, none⟩ (.int .u8 M.volume)).setCell ⟨w.heap.size, 7, none⟩ (.int .u16 M.time)) := by
  have ob := heap_set_cell (heap_set_cell (heap_set_cell (heap_set_cell (heap_set_cell (heap_set_cell (heap_set_cell (heap_set_cell h.img.obj 0 bv) 1 r) 2 s) 3 (.int .u8 M.chosen)) 4 (.int .u8 M.pad)) 5 (.int .u16 M.pitch)) 6 (.int .u8 M.volume)) 7 (.int .u16 M.time)
  have hbl := ((((((((h.img.below.setCell (p := ⟨w.heap.size, 0, none⟩) (by simp) bv).setCell (p := ⟨w.heap.size, 1, none⟩) (by simp) r).setCell (p := ⟨w.heap.size, 2, none⟩) (by simp) s).setCell (p := ⟨w.heap.size, 3, none⟩) (by simp) (.int .u8 M.chosen)).setCell (p := ⟨w.heap.size, 4, none⟩) (by simp) (.int .u8 M.pad)).setCell (p := ⟨w.heap.size, 5, none⟩) (by simp) (.int .u16 M.pitch)).setCell (p := ⟨w.heap.size, 6, none⟩) (by simp) (.int .u8 M.volume)).setCell (p := ⟨w.heap.size, 7, none⟩) (by simp) (.int .u16 M.time))
  obtain ⟨w4, hw4⟩ : ∃ w4, w4 = ((((((((W.setCell ⟨w.heap.size, 0, none⟩ bv).setCell ⟨w.heap.size, 1, none⟩ r).setCell ⟨w.heap.size, 2, none⟩ s).setCell ⟨w.heap.size, 3, none⟩ (.int .u8 M.chosen)).setCell ⟨w.heap.size, 4, none⟩ (.int .u8 M.pad)).setCell ⟨w.heap.size, 5, none⟩ (.int .u16 M.pitch)).setCell ⟨w.heap.size, 6, none⟩ (.int .u8 M.volume)).setCell ⟨w.heap.size, 7, none⟩ (.int .u16 M.time)) := ⟨_, rfl⟩
  have hh : ∀ b, w.heap.size < b → w4.heap[b]? = W.heap[b]? := by
    intro b hb
    have hne : b ≠ w.heap.size := by omega
    rw [hw4]
    iterate 8 rw [heap_set_far hne]
  have hc : ∀ b o, w.heap.size + 1 ≤ b → w4.cell? ⟨b, o, none⟩ = W.cell? ⟨b, o, none⟩ := fun b o hb => by simp only [World.cell?, hh b hb]
  rw [← hw4] at ob hbl ⊢
  have fr : ∀ {t : TypeId} {v : Value}, Blk w W t v → From (w.heap.size + 1) v := fun hv b o n c e => (hv b o n c e).1
  have hbk : BanksIn W bv (bankList ss gs) (bankSl (bankList ss gs) g c) := by
    have hlen : (bankList ss gs).length = ss.length := by simp [bankList]
    refine ⟨?_, fun i hi => (h.data i (by omega)).1, fun i hi => ?_⟩
    · rcases h.row.2 with ⟨rfl, h0⟩ | ⟨q, cap, cur, rfl, _, hq, _, _, _, hcur⟩
      · rw [hlen, h0]; exact ⟨_, _, rfl, fun h => absurd h (by decide)⟩
      · refine ⟨_, _, by rw [hlen], fun _ => ⟨q, 0, rfl, fun i hi => ?_⟩⟩
        have hget : ∀ j u, (bankCells (bankList ss gs) g c ss.length)[j]? = some u → W.cell? ⟨q, 0 + j, none⟩ = some u := by
          intro j u hj
          rw [Nat.zero_add, cell_of hq, ← Array.getElem?_toList]
          rw [← hcur, List.getElem?_take] at hj
          split at hj
          · exact hj
          · cases hj
        obtain ⟨a1, a2⟩ := bankCells_at (bankList ss gs) g c ss.length i (by omega)
        exact ⟨hget _ _ a1, by have := hget _ _ a2; rw [← Nat.add_assoc] at this; exact this⟩
    · rw [hlen] at hi
      have e : (bankList ss gs).getD i (0, []) = (ss[i], bytesOf (gs ss[i]) 16384) := by
        unfold bankList
        rw [List.getD_eq_getElem?_getD, List.getElem?_map, List.getElem?_eq_getElem hi]; rfl
      have e2 : ((bankList ss gs).getD i (0, [])).2 = bytesOf (gs ss[i]) 16384 := by rw [e]
      rw [e2]
      have hb := hok.bank ss[i] (gs ss[i]) (hg _ (List.getElem_mem hi))
      clear e e2
      generalize gs ss[i] = f at hb ⊢
      generalize 16384 = n
      exact bytesOf_isB f n hb
  refine ⟨ob, ss, gs, bv, r, s, _, hp, hm, hg, rfl, hbk.kept hc (From.of_own h.row) (fun i hi => fr (h.data i (by simpa [bankList] using hi)).2), h.img.ram.kept hc (fr h.img.ramB), h.img.scr.kept hc (fr h.img.scrB), hbl, ?_⟩
  obtain ⟨ra, rc, rfl, _, hra⟩ := h.img.ram
  obtain ⟨rb, ro, rfl, _⟩ := hra (by rw [bytesOf_length]; omega)
  obtain ⟨sa, sc, rfl, _, hsa⟩ := h.img.scr
  obtain ⟨sb, so, rfl, _⟩ := hsa (by rw [bytesOf_length]; omega)
  obtain ⟨r1, rcs, rz, r2, rfl, rfl, r3, r4⟩ := h.img.ramB _ _ _ _ rfl
  obtain ⟨s1, scs, sz, s2, rfl, rfl, s3, s4⟩ := h.img.scrB _ _ _ _ rfl
  have rs : rb ≠ sb := heap_ne r2 s2 (cells_ne (by decide))
  have lb : ∀ i, i < ss.length → ((bankList ss gs).getD i (0, [])).2.length = 16384 := fun i hi => by
    unfold bankList
    generalize 16384 = n
    rw [List.getD_eq_getElem?_getD, List.getElem?_map, List.getElem?_eq_getElem hi]
    exact bytesOf_length _ _
  have dt : ∀ i, i < ss.length → w.heap.size < g i ∧ ∃ cs : Array Value, W.heap[g i]? = some (.cells cs 5 (0, 0)) ∧ 16384 ≤ c i ∧ c i ≤ cs.size := fun i hi => by
    obtain ⟨q1, cs, z, q2, _, rfl, q3, q4⟩ := (h.data i hi).2 _ _ _ _ rfl
    rw [lb i hi] at q3
    exact ⟨q1, cs, q2, q3, q4⟩
  rw [bytesOf_length] at r3 s3
  refine Handed.mk (g := g) (m := fun _ => 16384) (gr := rb) (mr := 16384) (gb := sb) (mb := 3072) (fun i hi => ?_) ⟨⟨rc, rcs, _, by rw [bytesOf_length], (hh _ r1).trans r2, r3, r4⟩, by omega, by omega⟩ ⟨⟨sc, scs, _, by rw [bytesOf_length], (hh _ s1).trans s2, s3, s4⟩, by omega, by omega⟩ h.inj (fun i hi => h.offR i hi _ _ _ _ rfl) (fun i hi => ?_) rs
  · obtain ⟨q1, cs, q2, q3, q4⟩ := dt i hi
    refine ⟨⟨c i, cs, _, ?_, (hh _ q1).trans q2, q3, q4⟩, by omega, by omega⟩
    unfold bankSl
    rw [lb i hi]
  · obtain ⟨q1, cs, q2, _⟩ := dt i hi
    exact heap_ne q2 s2 (cells_ne (by decide))
end Go.Proofs.Ytabeljpnmmfpgaa

namespace Go.Proofs.Ytabeljpnmmfpgaa
open Go.RowKit Go.MapKept
set_option linter.unusedVariables false
set_option linter.unusedSimpArgs false

theorem BkRel.x3 {w W w3 : World} {M : Mm} {X : Nat} {l : List (Int × List Int)} {kv : Value} {ks : List Int} {k : Nat} {bv r s : Value} {g c : Nat → Nat} (h : BkRel w W M X l kv ks k bv r s g c)
    (h3 : W.grownBy w3 bv.ownBlock) : w3.heap[X]? = some (.cells (xImg M bv r s) 49 (0, 0)) ∧ Below w.heap.size w w3 := by
  have row : ∀ b, bv.ownBlock = some b → ∃ cs, W.heap[b]? = some (.cells cs 37 (0, 0)) := fun b hb => by
    rcases h.row.2 with ⟨rfl, _⟩ | ⟨q, cap, cur, rfl, _, hh, _⟩
    · simp [Value.ownBlock] at hb
    · simp only [Value.ownBlock, Option.some.injEq] at hb
      subst hb; exact ⟨_, hh⟩
  refine ⟨?_, h.img.below.grown h3 h.img.below.size (fun q hq => by have := (h.row.lt q hq).1; omega)⟩
  rw [h3.block X (Array.getElem?_eq_some_iff.1 h.img.x).1 (fun e => ?_)]
  · exact h.img.x
  · obtain ⟨cs', h4⟩ := row X e.symm
    rw [h.img.x] at h4
    exact cells_ne (by decide) (Option.some.inj h4)

theorem BkRel.round {w wr w1 : World} {M : Mm} {X : Nat} {l : List (Int × List Int)} {kv : Value} {ks : List Int} {k : Nat} {bv r s : Value} {g c : Nat → Nat} {n : Int} {D : List Int} {g' c' : Nat} (h : BkRel w wr M X l kv ks k bv r s g c)
    (hb : Below wr.heap.size wr w1) (hn : l.getD k (0, []) = (n, D)) (hD : D.length = 16384) (hby : BytesIn w1 (.slice (some ⟨g', 0, none⟩) 16384 c') D) (hbl : Blk w w1 5 (.slice (some ⟨g', 0, none⟩) 16384 c')) (hfr : wr.heap.size ≤ g') :
    Below w.heap.size w w1 ∧ Below w.heap.size w (w1.alloc (.cells #[.int .i64 n, .slice (some ⟨g', 0, none⟩) 16384 c'] 37)) ∧ w1.cell? ⟨X, 0, none⟩ = some bv ∧ (w1.alloc (.cells #[.int .i64 n, .slice (some ⟨g', 0, none⟩) 16384 c'] 37)).cell? ⟨X, 0, none⟩ = some bv ∧
    (w1.alloc (.cells #[.int .i64 n, .slice (some ⟨g', 0, none⟩) 16384 c'] 37)).ownsRow (w.heap.size + 1) 37 2 bv k (bankCells l g c k) ∧
    (∀ j u, ([.int .i64 n, .slice (some ⟨g', 0, none⟩) 16384 c'] : List Value)[j]? = some u → (w1.alloc (.cells #[.int .i64 n, .slice (some ⟨g', 0, none⟩) 16384 c'] 37)).cell? ((⟨w1.heap.size, 0, none⟩ : Addr).add j) = some u) ∧
    ∀ v' w3, (w1.alloc (.cells #[.int .i64 n, .slice (some ⟨g', 0, none⟩) 16384 c'] 37)).grownBy w3 bv.ownBlock → w3.ownsRow (w.heap.size + 1) 37 2 v' (k + 1) (bankCells l g c k ++ [.int .i64 n, .slice (some ⟨g', 0, none⟩) 16384 c']) →
      w3.cell? ⟨X, 0, none⟩ = some bv ∧ w3.frozen? ⟨X, 0, none⟩ = false ∧ Below w.heap.size w w3 ∧ Below w.heap.size w (w3.setCell ⟨X, 0, none⟩ v') ∧ ∃ g2 c2, BkRel w (w3.setCell ⟨X, 0, none⟩ v') M X l kv ks (k + 1) v' r s g2 c2 := by
  have h1 := h.next hb
  have hba : Below w1.heap.size w1 (w1.alloc (.cells #[.int .i64 n, .slice (some ⟨g', 0, none⟩) 16384 c'] 37)) := (Below.refl _ _).alloc (Nat.le_refl _) _
  have h2 := h1.next hba
  refine ⟨h1.img.below, h2.img.below, (cells8 h1.img.x).1, (cells8 h2.img.x).1, h2.row, fun j u hj => ?_, fun v' w3 hg ho => ?_⟩
  · rw [addr_add, Nat.zero_add, cell_of (heap_alloc_at w1 _)]
    simpa using hj
  · obtain ⟨q1, q2⟩ := h2.x3 hg
    have hl2 : (l.getD k (0, [])).2.length = 16384 := by rw [hn]; exact hD
    have hstep := h2.step (v' := v') (g' := g') (c' := c') (by rw [hl2, hn]; exact hby.below hba) (by rw [hl2]; exact hbl.below hba) (fun i hi e => by obtain ⟨_, cs, z, q2, _⟩ := (h.data i hi).2 _ _ _ _ rfl; have := heap_lt q2; omega) (fun b o n c e e' => by obtain ⟨_, cs, z, q2, _⟩ := h.img.ramB _ _ _ _ e; have := heap_lt q2; omega) hg (by rw [hl2, hn]; exact ho)
    exact ⟨(cells8 q1).1, (cells8 q1).2.2.2.2.2.2.2.2 0, q2, hstep.img.below, _, _, hstep⟩

theorem asc_len : ∀ (l : List Int) (lo hi : Int), l.Pairwise (fun x y => x < y) → (∀ x ∈ l, lo ≤ x ∧ x < hi) → l.length ≤ (hi - lo).toNat
  | [], _, _, _, _ => Nat.zero_le _
  | x :: r, lo, hi, hp, hb => by
    obtain ⟨h1, h2⟩ := List.pairwise_cons.1 hp
    obtain ⟨b1, b2⟩ := hb x (by simp)
    have := asc_len r (x + 1) hi h2 (fun y hy => ⟨by have := h1 y hy; omega, (hb y (List.mem_cons_of_mem _ hy)).2⟩)
    rw [List.length_cons]
    omega
end Go.Proofs.Ytabeljpnmmfpgaa
