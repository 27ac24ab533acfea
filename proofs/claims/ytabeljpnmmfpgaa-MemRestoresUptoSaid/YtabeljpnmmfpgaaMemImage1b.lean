/-
  Image: the loop's relation.
-/
import Derived.Test.YtabeljpnmmfpgaaMemImage
namespace Go.Proofs.Ytabeljpnmmfpgaa
open Go.RowKit Go.MapKept
set_option linter.unusedVariables false
set_option linter.unusedSimpArgs false

def bankList (ss : List Int) (gs : Int → Nat → Int) : List (Int × List Int) := ss.map fun n => (n, bytesOf (gs n) 16384)

/-- The first k banks of x are laid. -/
structure BkRel (w W : World) (M : Mm) (X : Nat) (l : List (Int × List Int)) (kv : Value) (ks : List Int) (k : Nat) (bv r s : Value) (g c : Nat → Nat) : Prop where
  img : ImgAt w W M X bv r s
  row : W.ownsRow (w.heap.size + 1) 37 2 bv k (bankCells l g c k)
  data : ∀ i, i < k → BytesIn W (bankSl l g c i) (l.getD i (0, [])).2 ∧ Blk w W 5 (bankSl l g c i)
  keys : BytesIn W kv ks ∧ Blk w W 5 kv

theorem BkRel.start {w W : World} {M : Mm} {X : Nat} {r s : Value} (h : ImgAt w W M X (.slice none 0 0) r s) (l : List (Int × List Int)) {kv : Value} {ks : List Int} (hkv : BytesIn W kv ks ∧ Blk w W 5 kv) : BkRel w W M X l kv ks 0 (.slice none 0 0) r s (fun _ => 0) (fun _ => 0) :=
  ⟨h, World.ownsRow_nil _ _ _ _, (fun i hi => by omega), hkv⟩

theorem ImgAt.next {w W W' : World} {M : Mm} {X : Nat} {bv r s : Value} (h : ImgAt w W M X bv r s) (hb : Below W.heap.size W W') : ImgAt w W' M X bv r s := by
  have hX := (Array.getElem?_eq_some_iff.1 h.x).1
  have hO := (Array.getElem?_eq_some_iff.1 h.obj).1
  exact ⟨h.below.trans (hb.mono h.below.size), (hb.block _ hO).trans h.obj, h.lt, (hb.block _ hX).trans h.x, h.ram.below hb, h.ramB.below hb, h.scr.below hb, h.scrB.below hb⟩
theorem BkRel.next {w W W' : World} {M : Mm} {X : Nat} {l : List (Int × List Int)} {kv : Value} {ks : List Int} {k : Nat} {bv r s : Value} {g c : Nat → Nat} (h : BkRel w W M X l kv ks k bv r s g c) (hb : Below W.heap.size W W') : BkRel w W' M X l kv ks k bv r s g c :=
  ⟨h.img.next hb, ownsRow_heap h.row (fun b hb' => hb.block _ (ownBlock_lt h.row hb')), fun i hi => ⟨(h.data i hi).1.below hb, (h.data i hi).2.below hb⟩, h.keys.1.below hb, h.keys.2.below hb⟩

/-- What a step that turns block q alone (a row of banks) or the cell 0 of X leaves. -/
theorem BytesIn.keptBlk {w W W' : World} {t : TypeId} {v : Value} {l : List Int} (h : BytesIn W v l) (hv : Blk w W t v) (hk : ∀ (b : Nat) (cs : Array Value) (z : Nat × Nat), W.heap[b]? = some (Obj.cells cs t z) → W'.heap[b]? = W.heap[b]?) : BytesIn W' v l ∧ Blk w W' t v := by
  have hv' : Blk w W' t v := fun b o n c e => by
    obtain ⟨h1, cs, z, h2⟩ := hv b o n c e
    exact ⟨h1, cs, z, (hk _ _ _ h2).trans h2⟩
  refine ⟨?_, hv'⟩
  obtain ⟨a, c, rfl, hn, h2⟩ := h
  refine ⟨a, c, rfl, hn, fun hl => ?_⟩
  obtain ⟨b, o, rfl, h4⟩ := h2 hl
  obtain ⟨_, cs, z, h5⟩ := hv b o _ _ rfl
  exact ⟨b, o, rfl, fun j hj => by rw [← h4 j hj]; simp only [World.cell?, hk _ _ _ h5]⟩

theorem BkRel.step {w W w3 : World} {M : Mm} {X : Nat} {l : List (Int × List Int)} {kv : Value} {ks : List Int} {k : Nat} {bv v' r s : Value} {g c : Nat → Nat} {g' c' : Nat} (h : BkRel w W M X l kv ks k bv r s g c)
    (hd : BytesIn W (.slice (some ⟨g', 0, none⟩) (l.getD k (0, [])).2.length c') (l.getD k (0, [])).2) (hdB : Blk w W 5 (.slice (some ⟨g', 0, none⟩) (l.getD k (0, [])).2.length c'))
    (h3 : W.grownBy w3 bv.ownBlock) (hv' : w3.ownsRow (w.heap.size + 1) 37 2 v' (k + 1) (bankCells l g c k ++ [.int .i64 (l.getD k (0, [])).1, .slice (some ⟨g', 0, none⟩) (l.getD k (0, [])).2.length c'])) :
    BkRel w (w3.setCell ⟨X, 0, none⟩ v') M X l kv ks (k + 1) v' r s (fun i => if i = k then g' else g i) (fun i => if i = k then c' else c i) := by
  have hX := (Array.getElem?_eq_some_iff.1 h.img.x).1
  have hO := (Array.getElem?_eq_some_iff.1 h.img.obj).1
  have row : ∀ b, bv.ownBlock = some b → ∃ cs, W.heap[b]? = some (.cells cs 37 (0, 0)) := fun b hb => by
    rcases h.row.2 with ⟨rfl, _⟩ | ⟨q, cap, cur, rfl, _, hh, _⟩
    · simp [Value.ownBlock] at hb
    · simp only [Value.ownBlock, Option.some.injEq] at hb
      subst hb; exact ⟨_, hh⟩
  have old : ∀ (b : Nat) (cs : Array Value) (t : TypeId) (z : Nat × Nat), t ≠ 37 → W.heap[b]? = some (.cells cs t z) → w3.heap[b]? = W.heap[b]? := fun b cs t z ht hb => by
    refine h3.block b (Array.getElem?_eq_some_iff.1 hb).1 (fun e => ?_)
    obtain ⟨cs', h4⟩ := row b e.symm
    rw [hb] at h4
    exact cells_ne ht (Option.some.inj h4)
  have x3 : w3.heap[X]? = some (.cells (xImg M bv r s) 49 (0, 0)) := (old _ _ _ _ (by decide) h.img.x).trans h.img.x
  have far : ∀ (b : Nat) (cs : Array Value) (t : TypeId) (z : Nat × Nat), t ≠ 37 → t ≠ 49 → W.heap[b]? = some (.cells cs t z) → (w3.setCell ⟨X, 0, none⟩ v').heap[b]? = W.heap[b]? := fun b cs t z ht ht2 hb => by
    rw [heap_set_far (fun e => ?_)]
    · exact old _ _ _ _ ht hb
    · subst e
      rw [h.img.x] at hb
      exact cells_ne ht2 (Option.some.inj hb).symm
  have hbel : Below w.heap.size w (w3.setCell ⟨X, 0, none⟩ v') := by
    refine Below.setCell (h.img.below.grown h3 h.img.below.size (fun q hq => ?_)) (by simp; have := h.img.lt; omega) _
    have := (h.row.lt q hq).1
    omega
  have k1 := h.img.ram.keptBlk h.img.ramB (fun b cs z hb => far b cs _ z (by decide) (by decide) hb)
  have k2 := h.img.scr.keptBlk h.img.scrB (fun b cs z hb => far b cs _ z (by decide) (by decide) hb)
  have hOX : w.heap.size ≠ X := by have := h.img.lt; omega
  refine ⟨⟨hbel, ?_, h.img.lt, heap_set_cell x3 0 v', k1.1, k1.2, k2.1, k2.2⟩, ?_, ?_, h.keys.1.keptBlk h.keys.2 (fun b cs z hb => far b cs _ z (by decide) (by decide) hb)⟩
  · rw [heap_set_far hOX, old _ _ _ _ (by decide) h.img.obj]; exact h.img.obj
  · rw [bankCells, bankCells_congr l (g := g) (c := c) (fun i hi => by rw [if_neg (by omega), if_neg (by omega)]; exact ⟨rfl, rfl⟩), bankSl, if_pos rfl, if_pos rfl]
    refine ownsRow_heap hv' (fun b hb => heap_set_far (fun e => ?_))
    subst e
    rcases hv'.2 with ⟨rfl, _⟩ | ⟨q, cap, cur, rfl, _, hh, _⟩
    · simp [Value.ownBlock] at hb
    · simp only [Value.ownBlock, Option.some.injEq] at hb
      subst hb
      rw [x3] at hh
      exact cells_ne (by decide) (Option.some.inj hh)
  · intro i hi
    by_cases e : i = k
    · subst e
      rw [bankSl, if_pos rfl, if_pos rfl]
      exact hd.keptBlk hdB (fun b cs z hb => far b cs _ z (by decide) (by decide) hb)
    · rw [bankSl, if_neg e, if_neg e]
      have := h.data i (by omega)
      exact this.1.keptBlk this.2 (fun b cs z hb => far b cs _ z (by decide) (by decide) hb)

theorem bytesOf_isB (f : Nat → Int) (n : Nat) (h : ∀ j, 0 ≤ f j ∧ f j < 256) : IsBytes (bytesOf f n) := by
  intro x hx
  obtain ⟨j, _, rfl⟩ := List.mem_map.1 hx
  exact h j

def ImgEnd (w : World) (M : Mm) (bv r s : Value) (w' : World) : Prop :=
  w'.heap[w.heap.size]? = some (.cells (xImg M bv r s) 49 (0, 0)) ∧ ImgPost w M (.returned (.agg (xImg M bv r s))) w'

set_option maxHeartbeats 1000000 in
theorem BkRel.close {w W : World} {M : Mm} {X : Nat} {ss : List Int} {gs : Int → Nat → Int} {kv : Value} {ks : List Int} {bv r s : Value} {g c : Nat → Nat} (h : BkRel w W M X (bankList ss gs) kv ks ss.length bv r s g c)
    (hp : ss.Pairwise (fun x y => x < y)) (hm : ∀ x, x ∈ ss ↔ (M.bank x).isSome = true) (hg : ∀ x, x ∈ ss → M.bank x = some (gs x)) (hok : M.Ok) :
    ImgEnd w M bv r s ((((((((W.setCell ⟨w.heap.size, 0, none⟩ bv).setCell ⟨w.heap.size, 1, none⟩ r).setCell ⟨w.heap.size, 2, none⟩ s).setCell ⟨w.heap.size, 3, none⟩ (.int .u8 M.chosen)).setCell ⟨w.heap.size, 4, none⟩ (.int .u8 M.pad)).setCell ⟨w.heap.size, 5, none⟩ (.int .u16 M.pitch)).setCell ⟨w.heap.size, 6, none⟩ (.int .u8 M.volume)).setCell ⟨w.heap.size, 7, none⟩ (.int .u16 M.time)) := by
  have ob := heap_set_cell (heap_set_cell (heap_set_cell (heap_set_cell (heap_set_cell (heap_set_cell (heap_set_cell (heap_set_cell h.img.obj 0 bv) 1 r) 2 s) 3 (.int .u8 M.chosen)) 4 (.int .u8 M.pad)) 5 (.int .u16 M.pitch)) 6 (.int .u8 M.volume)) 7 (.int .u16 M.time)
  have hbl := ((((((((h.img.below.setCell (p := ⟨w.heap.size, 0, none⟩) (by simp) bv).setCell (p := ⟨w.heap.size, 1, none⟩) (by simp) r).setCell (p := ⟨w.heap.size, 2, none⟩) (by simp) s).setCell (p := ⟨w.heap.size, 3, none⟩) (by simp) (.int .u8 M.chosen)).setCell (p := ⟨w.heap.size, 4, none⟩) (by simp) (.int .u8 M.pad)).setCell (p := ⟨w.heap.size, 5, none⟩) (by simp) (.int .u16 M.pitch)).setCell (p := ⟨w.heap.size, 6, none⟩) (by simp) (.int .u8 M.volume)).setCell (p := ⟨w.heap.size, 7, none⟩) (by simp) (.int .u16 M.time))
  obtain ⟨w4, hw4⟩ : ∃ w4, w4 = ((((((((W.setCell ⟨w.heap.size, 0, none⟩ bv).setCell ⟨w.heap.size, 1, none⟩ r).setCell ⟨w.heap.size, 2, none⟩ s).setCell ⟨w.heap.size, 3, none⟩ (.int .u8 M.chosen)).setCell ⟨w.heap.size, 4, none⟩ (.int .u8 M.pad)).setCell ⟨w.heap.size, 5, none⟩ (.int .u16 M.pitch)).setCell ⟨w.heap.size, 6, none⟩ (.int .u8 M.volume)).setCell ⟨w.heap.size, 7, none⟩ (.int .u16 M.time)) := ⟨_, rfl⟩
  have hh : ∀ b, w.heap.size < b → w4.heap[b]? = W.heap[b]? := by
    intro b hb
    have hne : b ≠ w.heap.size := by omega
    rw [hw4]
    iterate 8 rw [heap_set_far hne]
  have hc : ∀ b o, w.heap.size + 1 ≤ b → w4.cell? ⟨b, o, none⟩ = W.cell? ⟨b, o, none⟩ := fun b o hb => by simp only [World.cell?, hh b hb]
  rw [← hw4] at ob hbl ⊢
  have fr : ∀ {t : TypeId} {v : Value}, Blk w W t v → From (w.heap.size + 1) v := fun hv b o n c e => (hv b o n c e).1
  have hbk : BanksIn W bv (bankList ss gs) (bankSl (bankList ss gs) g c) := by
    have hlen : (bankList ss gs).length = ss.length := by simp [bankList]
    refine ⟨?_, fun i hi => (h.data i (by omega)).1, fun i hi => ?_⟩
    · rcases h.row.2 with ⟨rfl, h0⟩ | ⟨q, cap, cur, rfl, _, hq, _, _, _, hcur⟩
      · rw [hlen, h0]; exact ⟨_, _, rfl, fun h => absurd h (by decide)⟩
      · refine ⟨_, _, by rw [hlen], fun _ => ⟨q, 0, rfl, fun i hi => ?_⟩⟩
        have hget : ∀ j u, (bankCells (bankList ss gs) g c ss.length)[j]? = some u → W.cell? ⟨q, 0 + j, none⟩ = some u := by
          intro j u hj
          rw [Nat.zero_add, cell_of hq, ← Array.getElem?_toList]
          rw [← hcur, List.getElem?_take] at hj
          split at hj
          · exact hj
          · cases hj
        obtain ⟨a1, a2⟩ := bankCells_at (bankList ss gs) g c ss.length i (by omega)
        exact ⟨hget _ _ a1, by have := hget _ _ a2; rw [← Nat.add_assoc] at this; exact this⟩
    · rw [hlen] at hi
      have e : (bankList ss gs).getD i (0, []) = (ss[i], bytesOf (gs ss[i]) 16384) := by
        unfold bankList
        rw [List.getD_eq_getElem?_getD, List.getElem?_map, List.getElem?_eq_getElem hi]; rfl
      have e2 : ((bankList ss gs).getD i (0, [])).2 = bytesOf (gs ss[i]) 16384 := by rw [e]
      rw [e2]
      have hb := hok.bank ss[i] (gs ss[i]) (hg _ (List.getElem_mem hi))
      clear e e2
      generalize gs ss[i] = f at hb ⊢
      generalize 16384 = n
      exact bytesOf_isB f n hb
  refine ⟨ob, ss, gs, bv, r, s, _, hp, hm, hg, rfl, hbk.kept hc (From.of_own h.row) (fun i hi => fr (h.data i (by simpa [bankList] using hi)).2), h.img.ram.kept hc (fr h.img.ramB), h.img.scr.kept hc (fr h.img.scrB), hbl⟩
end Go.Proofs.Ytabeljpnmmfpgaa
