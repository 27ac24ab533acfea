/-
  (*mem.Memory).Image.
-/
import Derived.Test.YtabeljpnmmfpgaaMemScreen
import Derived.Test.YtabeljpnmmfpgaaMemClone
import Derived.Test.YtabeljpnmmfpgaaKeysOf
import Derived.Deep.DeepCutAuto
namespace Go.Proofs.Ytabeljpnmmfpgaa
open Go.RowKit Go.MapKept
set_option linter.unusedVariables false
set_option linter.unusedSimpArgs false

theorem MemAt.stays {w w' : World} {b : Nat} {M : Mm} {S : Nat → Prop} {cs : Array Value} {bm : Nat} {es : Array MapEntry} {clk : Nat} {bf : Int → Option Nat} {tv : Value} (H : MemAt w b M S cs bm es clk bf tv) (hs : ∀ i, S i → w'.heap[i]? = w.heap[i]?) : MemAt w' b M S cs bm es clk bf tv := by
  refine { H with blk := ?_, map := ?_, bank := ?_, tones := ?_, lt := ?_ }
  · rw [hs b H.sb]; exact H.blk
  · rw [hs bm H.sm]; exact H.map
  · intro n x hx
    obtain ⟨bs, g, h1, h2, h3⟩ := H.bank n x hx
    exact ⟨bs, g, h1, by rw [hs x (H.sx n x hx)]; exact h2, h3⟩
  · exact ownsRow_heap H.tones (fun k hk => hs k (H.st k hk))
  · intro i hi
    have := H.lt i hi
    have h2 := hs i hi
    rw [Array.getElem?_eq_getElem this] at h2
    exact (Array.getElem?_eq_some_iff.1 h2).1
theorem MemAt.below {w w' : World} {b : Nat} {M : Mm} {S : Nat → Prop} {cs : Array Value} {bm : Nat} {es : Array MapEntry} {clk : Nat} {bf : Int → Option Nat} {tv : Value} (H : MemAt w b M S cs bm es clk bf tv) (h : Below w.heap.size w w') : MemAt w' b M S cs bm es clk bf tv :=
  H.stays (fun i hi => h.block i (H.lt i hi))
theorem MemAt.ramBytes {w : World} {b : Nat} {M : Mm} {S : Nat → Prop} {cs : Array Value} {bm : Nat} {es : Array MapEntry} {clk : Nat} {bf : Int → Option Nat} {tv : Value} (h : MemAt w b M S cs bm es clk bf tv) : BytesIn w (.slice (some ⟨b, 1, none⟩) 16384 16384) (bytesOf M.ram 16384) := by
  refine ⟨_, _, by rw [bytesOf_length], (fun e => by cases e), fun _ => ⟨b, 1, rfl, fun j hj => ?_⟩⟩
  rw [bytesOf_length] at hj
  rw [h.at_ (1 + j) (by omega), M.cell_ram bm tv hj, bytesOf_at _ _ _ hj]
theorem MemAt.bankBytes {w : World} {b : Nat} {M : Mm} {S : Nat → Prop} {cs : Array Value} {bm : Nat} {es : Array MapEntry} {clk : Nat} {bf : Int → Option Nat} {tv : Value} (h : MemAt w b M S cs bm es clk bf tv) {n : Int} {x : Nat} (hx : bf n = some x) :
    ∃ g, M.bank n = some g ∧ BytesIn w (.slice (some ⟨x, 0, none⟩) 16384 16384) (bytesOf g 16384) := by
  obtain ⟨bs, g, h1, h2, h3, h4⟩ := h.bank n x hx
  refine ⟨g, h1, _, _, by rw [bytesOf_length], (fun e => by cases e), fun _ => ⟨x, 0, rfl, fun j hj => ?_⟩⟩
  rw [bytesOf_length] at hj
  rw [Nat.zero_add, cell_of h2, h4 j hj, bytesOf_at _ _ _ hj]

def zImg : Array Value := #[.slice none 0 0, .slice none 0 0, .slice none 0 0, .int .u8 0, .int .u8 0, .int .u16 0, .int .u8 0, .int .u16 0]

/-- The result's block and, once it is made, the block of x. -/
structure MkO (w W : World) (ox : Option Nat) : Prop where
  below : Below w.heap.size w W
  obj : W.heap[w.heap.size]? = some (.cells zImg 49 (0, 0))
  x : ∀ X, ox = some X → w.heap.size < X ∧ W.heap[X]? = some (.cells zImg 49 (0, 0))
theorem MkO.start (w : World) : MkO w (w.alloc (.cells zImg 49)) none :=
  ⟨(Below.refl _ _).alloc (Nat.le_refl _) _, heap_alloc_at w _, fun X h => by cases h⟩
theorem MkO.lt {w W : World} {ox : Option Nat} (h : MkO w W ox) : w.heap.size < W.heap.size := (Array.getElem?_eq_some_iff.1 h.obj).1
theorem MkO.next {w W W' : World} {ox : Option Nat} (h : MkO w W ox) (hb : Below W.heap.size W W') : MkO w W' ox := by
  have := h.lt
  refine ⟨h.below.trans (hb.mono h.below.size), (hb.block _ (by omega)).trans h.obj, fun X e => ?_⟩
  obtain ⟨h1, h2⟩ := h.x X e
  exact ⟨h1, (hb.block _ (Array.getElem?_eq_some_iff.1 h2).1).trans h2⟩
theorem MkO.addX {w W : World} (h : MkO w W none) : MkO w (W.alloc (.cells zImg 49)) (some W.heap.size) := by
  have h2 := h.next ((Below.refl _ _).alloc (Nat.le_refl _) (.cells zImg 49))
  exact ⟨h2.below, h2.obj, fun X e => by cases e; exact ⟨h.lt, heap_alloc_at W _⟩⟩
/-- v lies in a block of type t, behind w. -/
def Blk (w W : World) (t : TypeId) (v : Value) : Prop := ∀ b o n c, v = .slice (some ⟨b, o, none⟩) n c → w.heap.size < b ∧ ∃ cs z, W.heap[b]? = some (.cells cs t z)
theorem Blk.below {w W W' : World} {t : TypeId} {v : Value} (h : Blk w W t v) (hb : Below W.heap.size W W') : Blk w W' t v := fun b o n c e => by
  obtain ⟨h1, cs, z, h2⟩ := h b o n c e
  exact ⟨h1, cs, z, (hb.block _ (Array.getElem?_eq_some_iff.1 h2).1).trans h2⟩
theorem Blk.of_own {w w0 W : World} {t : TypeId} {size n : Nat} {v : Value} {xs : List Value} (h : W.ownsRow w0.heap.size t size v n xs) (hw : w.heap.size < w0.heap.size) : Blk w W t v := by
  rintro b o n' c rfl
  have h1 := (h.lt b rfl).1
  rcases h.2 with ⟨e, _⟩ | ⟨g, cap, cur, e, _, hh, _⟩
  · cases e
  · cases e; exact ⟨by omega, _, _, hh⟩

theorem BytesIn.keptOff {w w' : World} {X : Nat} (hk : ∀ b o, b ≠ X → w'.cell? ⟨b, o, none⟩ = w.cell? ⟨b, o, none⟩) {v : Value} {l : List Int} (h : BytesIn w v l) (hf : ∀ b o n c, v = .slice (some ⟨b, o, none⟩) n c → b ≠ X) : BytesIn w' v l := by
  obtain ⟨a, c, rfl, hn, h2⟩ := h
  refine ⟨a, c, rfl, hn, fun hl => ?_⟩
  obtain ⟨b, o, rfl, h4⟩ := h2 hl
  exact ⟨b, o, rfl, fun j hj => by rw [hk _ _ (hf _ _ _ _ rfl)]; exact h4 j hj⟩

def xImg (M : Mm) (b r s : Value) : Array Value := #[b, r, s, .int .u8 M.chosen, .int .u8 M.pad, .int .u16 M.pitch, .int .u8 M.volume, .int .u16 M.time]
/-- x as it stands before its banks are laid in, and between. -/
structure ImgAt (w W : World) (M : Mm) (X : Nat) (b r s : Value) : Prop where
  below : Below w.heap.size w W
  obj : W.heap[w.heap.size]? = some (.cells zImg 49 (0, 0))
  lt : w.heap.size < X
  x : W.heap[X]? = some (.cells (xImg M b r s) 49 (0, 0))
  ram : BytesIn W r (bytesOf M.ram 16384)
  ramB : Blk w W 5 r
  scr : BytesIn W s (bytesOf M.scr 3072)
  scrB : Blk w W 85 s

theorem ImgAt.fresh {w W : World} {M : Mm} {r s : Value} (h : MkO w W none) (hr : BytesIn W r (bytesOf M.ram 16384)) (hrb : Blk w W 5 r) (hs : BytesIn W s (bytesOf M.scr 3072)) (hsb : Blk w W 85 s) :
    ImgAt w (W.alloc (.cells (xImg M (.slice none 0 0) r s) 49)) M W.heap.size (.slice none 0 0) r s := by
  have hb : Below W.heap.size W (W.alloc (.cells (xImg M (.slice none 0 0) r s) 49)) := (Below.refl _ _).alloc (Nat.le_refl _) _
  have h2 := h.next hb
  exact ⟨h2.below, h2.obj, h.lt, heap_alloc_at W _, hr.below hb, hrb.below hb, hs.below hb, hsb.below hb⟩

theorem ImgAt.stored {w W : World} {M : Mm} {X : Nat} {r s : Value} (h : MkO w W (some X)) (hr : BytesIn W r (bytesOf M.ram 16384)) (hrb : Blk w W 5 r) (hs : BytesIn W s (bytesOf M.scr 3072)) (hsb : Blk w W 85 s) :
    ImgAt w ((((((((W.setCell ⟨X, 0, none⟩ (.slice none 0 0)).setCell ⟨X, 1, none⟩ r).setCell ⟨X, 2, none⟩ s).setCell ⟨X, 3, none⟩ (.int .u8 M.chosen)).setCell ⟨X, 4, none⟩ (.int .u8 M.pad)).setCell ⟨X, 5, none⟩ (.int .u16 M.pitch)).setCell ⟨X, 6, none⟩ (.int .u8 M.volume)).setCell ⟨X, 7, none⟩ (.int .u16 M.time)) M X (.slice none 0 0) r s := by
  obtain ⟨hX, hXb⟩ := h.x X rfl
  have off : ∀ {t : TypeId} {v : Value}, t ≠ 49 → Blk w W t v → ∀ b o n c, v = .slice (some ⟨b, o, none⟩) n c → b ≠ X := by
    intro t v ht hv b o n c e
    obtain ⟨_, cs, z, h2⟩ := hv b o n c e
    rintro rfl
    rw [hXb] at h2
    cases h2
    exact ht rfl
  obtain ⟨w4, hw4⟩ : ∃ w4, w4 = ((((((((W.setCell ⟨X, 0, none⟩ (.slice none 0 0)).setCell ⟨X, 1, none⟩ r).setCell ⟨X, 2, none⟩ s).setCell ⟨X, 3, none⟩ (.int .u8 M.chosen)).setCell ⟨X, 4, none⟩ (.int .u8 M.pad)).setCell ⟨X, 5, none⟩ (.int .u16 M.pitch)).setCell ⟨X, 6, none⟩ (.int .u8 M.volume)).setCell ⟨X, 7, none⟩ (.int .u16 M.time)) := ⟨_, rfl⟩
  have ob := heap_set_cell (heap_set_cell (heap_set_cell (heap_set_cell (heap_set_cell (heap_set_cell (heap_set_cell (heap_set_cell hXb 0 (.slice none 0 0)) 1 r) 2 s) 3 (.int .u8 M.chosen)) 4 (.int .u8 M.pad)) 5 (.int .u16 M.pitch)) 6 (.int .u8 M.volume)) 7 (.int .u16 M.time)
  have hbl := ((((((((h.below.setCell (p := ⟨X, 0, none⟩) (by simp; omega) (.slice none 0 0)).setCell (p := ⟨X, 1, none⟩) (by simp; omega) r).setCell (p := ⟨X, 2, none⟩) (by simp; omega) s).setCell (p := ⟨X, 3, none⟩) (by simp; omega) (.int .u8 M.chosen)).setCell (p := ⟨X, 4, none⟩) (by simp; omega) (.int .u8 M.pad)).setCell (p := ⟨X, 5, none⟩) (by simp; omega) (.int .u16 M.pitch)).setCell (p := ⟨X, 6, none⟩) (by simp; omega) (.int .u8 M.volume)).setCell (p := ⟨X, 7, none⟩) (by simp; omega) (.int .u16 M.time))
  have hk : ∀ b o, b ≠ X → w4.cell? ⟨b, o, none⟩ = W.cell? ⟨b, o, none⟩ := by
    intro b o hb
    have hne : ¬ X = b := fun e => hb e.symm
    rw [hw4]
    iterate 8 rw [World.cell?_setCell_other _ _ _ _ (by simp [hne])]
  have hh : ∀ b, b ≠ X → w4.heap[b]? = W.heap[b]? := by
    intro b hb
    rw [hw4]
    iterate 8 rw [heap_set_far hb]
  rw [← hw4] at ob hbl ⊢
  have kb : ∀ {t : TypeId} {v : Value}, t ≠ 49 → Blk w W t v → Blk w w4 t v := fun {t v} ht hv b o n c e => by
    obtain ⟨h1, cs, z, h2⟩ := hv b o n c e
    exact ⟨h1, cs, z, (hh b (off ht hv b o n c e)).trans h2⟩
  exact ⟨hbl, (hh _ (by omega)).trans h.obj, hX, ob, hr.keptOff hk (off (by decide) hrb), kb (by decide) hrb, hs.keptOff hk (off (by decide) hsb), kb (by decide) hsb⟩

def ImgPost (w : World) (M : Mm) (e : Ending) (w' : World) : Prop :=
  ∃ (ss : List Int) (gs : Int → Nat → Int) (b r s : Value) (dv : Nat → Value), ss.Pairwise (fun x y => x < y) ∧ (∀ x, x ∈ ss ↔ (M.bank x).isSome = true) ∧ (∀ x, x ∈ ss → M.bank x = some (gs x)) ∧
    e = .returned (.agg #[b, r, s, .int .u8 M.chosen, .int .u8 M.pad, .int .u16 M.pitch, .int .u8 M.volume, .int .u16 M.time]) ∧
    BanksIn w' b (ss.map fun n => (n, bytesOf (gs n) 16384)) dv ∧ BytesIn w' r (bytesOf M.ram 16384) ∧ BytesIn w' s (bytesOf M.scr 3072) ∧ Below w.heap.size w w'

end Go.Proofs.Ytabeljpnmmfpgaa
