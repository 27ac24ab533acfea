/-
  flow's word: what its walk is told by; the way where the code field is no enter.
  flow's word: the walk.
-/
import Derived.Deep.LoopGhost
import Derived.Test.YtabeljpnmmfpgaaDoorFlSpec
import Derived.Test.YtabeljpnmmfpgaaDoorFlSet
import Derived.Test.YtabeljpnmmfpgaaDoorFlSorted
namespace Go.Proofs.YtabeljpnmmfpgaaDoor
open Go.RowKit Go.MapKept Go.Maps Go.Sort
set_option linter.unusedVariables false
set_option linter.unusedSimpArgs false

/-- The world while a word is gone along: the two results and the word as they were laid, the three maps. -/
structure WS (w W : World) (cw : Int) (o : List Int) (f : List FI) (c : List Int) : Prop where
  below : Below w.heap.size w W
  r6 : W.heap[w.heap.size]? = some (.cells #[.int .u16 0, .slice none 0 0, .slice none 0 0] 53 (0, 0))
  r7 : W.heap[w.heap.size + 1]? = some (.cells #[.int .i64 0, .int .u16 0] 33 (0, 0))
  out : W.heap[w.heap.size + 1 + 1]? = some (.cells #[.int .u16 cw, .slice none 0 0, .slice none 0 0] 53 (0, 0))
  found : MapAt W (w.heap.size + 1 + 1 + 1) (fFn f)
  calls : SetAt W (w.heap.size + 1 + 1 + 1 + 1) c
  opn : SetAt W (w.heap.size + 1 + 1 + 1 + 1 + 1) o

theorem WS.size {w W : World} {cw : Int} {o : List Int} {f : List FI} {c : List Int} (h : WS w W cw o f c) : w.heap.size + 1 + 1 + 1 + 1 + 1 < W.heap.size := MapAt.lt h.opn
theorem WS.bel {w W W' : World} {cw : Int} {o : List Int} {f : List FI} {c : List Int} (h : WS w W cw o f c) (hb : Below W.heap.size W W') : WS w W' cw o f c := by
  have hs := h.size
  have k : ∀ i, i ≤ w.heap.size + 1 + 1 + 1 + 1 + 1 → W'.heap[i]? = W.heap[i]? := fun i hi => hb.block i (by omega)
  exact ⟨b_then h.below hb, (k _ (by omega)).trans h.r6, (k _ (by omega)).trans h.r7, (k _ (by omega)).trans h.out, MapAt.move h.found (k _ (by omega)), MapAt.move h.calls (k _ (by omega)), MapAt.move h.opn (k _ (by omega))⟩
theorem WS.set_opn {w W W' : World} {cw : Int} {o o' : List Int} {f : List FI} {c : List Int} (h : WS w W cw o f c) (hu : Upd W W' (fun i => i = w.heap.size + 1 + 1 + 1 + 1 + 1)) (ho : SetAt W' (w.heap.size + 1 + 1 + 1 + 1 + 1) o') : WS w W' cw o' f c := by
  have hs := h.size
  have k : ∀ i, i < w.heap.size + 1 + 1 + 1 + 1 + 1 → W'.heap[i]? = W.heap[i]? := fun i hi => hu.block i (by omega) (by omega)
  exact ⟨h.below.trans (hu.below (by omega) (fun i hi => by omega)), (k _ (by omega)).trans h.r6, (k _ (by omega)).trans h.r7, (k _ (by omega)).trans h.out, MapAt.move h.found (k _ (by omega)), MapAt.move h.calls (k _ (by omega)), ho⟩
theorem WS.set_found {w W W' : World} {cw : Int} {o : List Int} {f f' : List FI} {c : List Int} (h : WS w W cw o f c) (hu : Upd W W' (fun i => i = w.heap.size + 1 + 1 + 1)) (ho : MapAt W' (w.heap.size + 1 + 1 + 1) (fFn f')) : WS w W' cw o f' c := by
  have hs := h.size
  have k : ∀ i, i < w.heap.size + 1 + 1 + 1 + 1 + 1 + 1 → i ≠ w.heap.size + 1 + 1 + 1 → W'.heap[i]? = W.heap[i]? := fun i hi hn => hu.block i (by omega) hn
  exact ⟨h.below.trans (hu.below (by omega) (fun i hi => by omega)), (k _ (by omega) (by omega)).trans h.r6, (k _ (by omega) (by omega)).trans h.r7, (k _ (by omega) (by omega)).trans h.out, ho, MapAt.move h.calls (k _ (by omega) (by omega)), MapAt.move h.opn (k _ (by omega) (by omega))⟩
theorem WS.set_calls {w W W' : World} {cw : Int} {o : List Int} {f : List FI} {c c' : List Int} (h : WS w W cw o f c) (hu : Upd W W' (fun i => i = w.heap.size + 1 + 1 + 1 + 1)) (ho : SetAt W' (w.heap.size + 1 + 1 + 1 + 1) c') : WS w W' cw o f c' := by
  have hs := h.size
  have k : ∀ i, i < w.heap.size + 1 + 1 + 1 + 1 + 1 + 1 → i ≠ w.heap.size + 1 + 1 + 1 + 1 → W'.heap[i]? = W.heap[i]? := fun i hi hn => hu.block i (by omega) hn
  exact ⟨h.below.trans (hu.below (by omega) (fun i hi => by omega)), (k _ (by omega) (by omega)).trans h.r6, (k _ (by omega) (by omega)).trans h.r7, (k _ (by omega) (by omega)).trans h.out, MapAt.move h.found (k _ (by omega) (by omega)), ho, MapAt.move h.opn (k _ (by omega) (by omega))⟩

/-- A row of instructions of the call's own. -/
def RowI (w : World) (base : Nat) (v : Value) (l : List FI) : Prop := w.ownsRow base 60 5 v l.length (l.flatMap fun x => [.int .u16 x.at_, .int .i64 x.op, .int .u16 x.operand, .int .u16 x.word, .int .u16 x.next])
theorem new_block {W : World} {v : Value} {g n c : Nat} {o1 o2 : Obj} (h : (Value.slice (some ⟨g, 0, none⟩) n c).ownBlock = v.ownBlock ∨ (Value.slice (some ⟨g, 0, none⟩) n c).ownBlock = some (World.alloc (World.alloc W o1) o2).heap.size) : some g = v.ownBlock ∨ W.heap.size ≤ g := by
  rcases h with h | h
  · exact .inl h
  · right
    have e : g = (World.alloc (World.alloc W o1) o2).heap.size := Option.some.inj h
    rw [e]; simp; omega
theorem news5 (W : World) {g : Nat} {v0 v1 v2 v3 v4 : Value} {t : TypeId} (h : W.heap[g]? = some (.cells #[v0, v1, v2, v3, v4] t (0, 0))) : ∀ (j : Nat) (u : Value), [v0, v1, v2, v3, v4][j]? = some u → W.cell? ((⟨g, 0, none⟩ : Addr).add j) = some u := by
  intro j u hu
  have e : (⟨g, 0, none⟩ : Addr).add j = ⟨g, j, none⟩ := by unfold Addr.add; split <;> simp_all
  rw [e, cell_of h j]
  simpa using hu
theorem infoInstr : (Tryd.prog.info? 60).map (fun i => (i.zero, i.size, i.bytes)) = some (some (.agg #[(.int .u16 0), (.int .i64 0), (.int .u16 0), (.int .u16 0), (.int .u16 0)]), 5, 24) := by kernel_rfl
/-- What lies in an operand of these instructions. -/
def insOf (l : List FI) : List Int := l.foldl (fun S x => if hasOperand x.op = true then ins (IntKind.u16.wrap (x.at_ + 2)) S else S) []
theorem insOf_snoc (l : List FI) (x : FI) : insOf (l ++ [x]) = if hasOperand x.op = true then ins (IntKind.u16.wrap (x.at_ + 2)) (insOf l) else insOf l := by unfold insOf; rw [List.foldl_append]; rfl
theorem mem_insOf_go (n : Int) : ∀ (l : List FI) (S : List Int), n ∈ l.foldl (fun S x => if hasOperand x.op = true then ins (IntKind.u16.wrap (x.at_ + 2)) S else S) S ↔ n ∈ S ∨ ∃ y ∈ l, hasOperand y.op = true ∧ n = IntKind.u16.wrap (y.at_ + 2)
  | [], S => by simp
  | x :: l, S => by
    rw [List.foldl_cons, mem_insOf_go n l]
    by_cases h : hasOperand x.op = true
    · rw [if_pos h, mem_ins]; simp [h, or_assoc, or_comm, or_left_comm]
    · rw [if_neg h]; simp [h]
theorem mem_insOf (n : Int) (l : List FI) : n ∈ insOf l ↔ ∃ y ∈ l, hasOperand y.op = true ∧ n = IntKind.u16.wrap (y.at_ + 2) := by
  unfold insOf
  rw [mem_insOf_go]; simp
theorem clash_none {f : List FI} (h : ∀ x ∈ f, x.at_ ∉ insOf f) : clash f = none := by
  unfold clash
  rw [Option.map_eq_none_iff, List.find?_eq_none]
  intro x hx hc
  refine h x hx ((mem_insOf _ _).2 ?_)
  obtain ⟨y, hy, e⟩ := List.any_eq_true.1 hc
  simp at e
  exact ⟨y, hy, e.1, e.2.symm⟩
/-- The world behind the first loop: the calls are told; vi: the instructions that are told; S: what lies in an operand (the map in block g). -/
structure TS (w W : World) (cw : Int) (f : List FI) (c : List Int) (Ac : Option Addr) (nc : Nat) (g : Nat) (vi : Value) (is : List FI) (S : List Int) : Prop where
  below : Below w.heap.size w W
  r6 : W.heap[w.heap.size]? = some (.cells #[.int .u16 0, .slice none 0 0, .slice none 0 0] 53 (0, 0))
  r7 : W.heap[w.heap.size + 1]? = some (.cells #[.int .i64 0, .int .u16 0] 33 (0, 0))
  out : W.heap[w.heap.size + 1 + 1]? = some (.cells #[.int .u16 cw, vi, .slice Ac c.length nc] 53 (0, 0))
  found : MapAt W (w.heap.size + 1 + 1 + 1) (fFn f)
  far : w.heap.size + 1 + 1 + 1 < g
  inside : SetAt W g S
  rowc : RowU W (w.heap.size + 1 + 1 + 1 + 1) (.slice Ac c.length nc) c
  rowi : RowI W (w.heap.size + 1 + 1 + 1 + 1) vi is
  apart : ∀ k, (Value.slice Ac c.length nc).ownBlock = some k → vi.ownBlock ≠ some k ∧ k ≠ g
  inrow : vi.ownBlock ≠ some g

theorem RowI.own {w : World} {base : Nat} {v : Value} {l : List FI} (h : RowI w base v l) (k : Nat) (hk : v.ownBlock = some k) : k < w.heap.size ∧ base ≤ k := by
  rcases h.2 with ⟨rfl, _⟩ | ⟨g, cap, cur, rfl, hb, hh, _⟩
  · simp [Value.ownBlock] at hk
  · have : g = k := by simpa [Value.ownBlock] using hk
    subst this
    exact ⟨heap_lt hh, hb⟩
theorem RowI.slice {w : World} {base : Nat} {v : Value} {l : List FI} (h : RowI w base v l) : ∃ A c, v = .slice A l.length c := by
  rcases h.2 with ⟨rfl, hn⟩ | ⟨g, cap, cur, rfl, _⟩
  · exact ⟨none, 0, by rw [hn]⟩
  · exact ⟨_, cap, rfl⟩
def FI.cells (x : FI) : List Value := [.int .u16 x.at_, .int .i64 x.op, .int .u16 x.operand, .int .u16 x.word, .int .u16 x.next]
theorem flat5 : ∀ (l : List FI) (i k : Nat) (hi : i < l.length), k < 5 → (l.flatMap FI.cells)[i * 5 + k]? = (l[i]).cells[k]?
  | x :: l, 0, k, _, hk => by
    rw [List.flatMap_cons, List.getElem?_append_left (by simp [FI.cells]; omega)]
    simp
  | x :: l, i + 1, k, hi, hk => by
    have h5 : x.cells.length = 5 := rfl
    rw [List.flatMap_cons, List.getElem?_append_right (by rw [h5]; omega), h5, show (i + 1) * 5 + k - 5 = i * 5 + k by omega]
    exact flat5 l i k (by simpa using hi) hk
theorem RowI.at_ {w : World} {base n c : Nat} {A : Option Addr} {l : List FI} (h : RowI w base (.slice A n c) l) {i : Nat} (hi : i < l.length) : ∃ g, A = some ⟨g, 0, none⟩ ∧
    w.cell? ⟨g, i * 5, none⟩ = some (.int .u16 l[i].at_) ∧ w.cell? ⟨g, i * 5 + 1, none⟩ = some (.int .i64 l[i].op) ∧ w.cell? ⟨g, i * 5 + 2, none⟩ = some (.int .u16 l[i].operand) ∧ w.cell? ⟨g, i * 5 + 3, none⟩ = some (.int .u16 l[i].word) ∧ w.cell? ⟨g, i * 5 + 4, none⟩ = some (.int .u16 l[i].next) := by
  have h' : w.ownsRow base 60 5 (.slice A n c) l.length (l.flatMap FI.cells) := h
  rcases h'.2 with ⟨e, hn⟩ | ⟨g, cap, cur, e, hg, _⟩
  · omega
  · cases e
    have key : ∀ k u, k < 5 → (l[i]).cells[k]? = some u → w.cell? ⟨g, i * 5 + k, none⟩ = some u := fun k u hk hu => by
      have := h'.cells (g := g) rfl (i * 5 + k) u (by rw [flat5 l i k hi hk]; exact hu)
      have e : (⟨g, 0, none⟩ : Addr).add (i * 5 + k) = ⟨g, i * 5 + k, none⟩ := by unfold Addr.add; split <;> simp_all
      rwa [e] at this
    exact ⟨g, rfl, key 0 _ (by decide) rfl, key 1 _ (by decide) rfl, key 2 _ (by decide) rfl, key 3 _ (by decide) rfl, key 4 _ (by decide) rfl⟩
/-- An instruction appended, and the row told in the word. -/
theorem TS.app {w W W' : World} {cw : Int} {f : List FI} {c : List Int} {Ac : Option Addr} {nc g : Nat} {vi : Value} {is : List FI} {S : List Int} {x : FI} {n g' cap' : Nat} {o1 o2 : Obj} (h : TS w W cw f c Ac nc g vi is S) (hn : n = is.length)
    (hgr : World.grownBy (World.alloc (World.alloc W o1) o2) W' vi.ownBlock)
    (ho : W'.ownsRow (w.heap.size + 1 + 1 + 1 + 1) 60 5 (.slice (some ⟨g', 0, none⟩) (n + 1) cap') (n + 1) ((is.flatMap fun x => [.int .u16 x.at_, .int .i64 x.op, .int .u16 x.operand, .int .u16 x.word, .int .u16 x.next]) ++ [.int .u16 x.at_, .int .i64 x.op, .int .u16 x.operand, .int .u16 x.word, .int .u16 x.next]))
    (hnew : some g' = vi.ownBlock ∨ W.heap.size ≤ g') :
    W'.heap[w.heap.size + 1 + 1]? = some (.cells #[.int .u16 cw, vi, .slice Ac c.length nc] 53 (0, 0)) ∧ W'.heap[W.heap.size]? = some o1 ∧
    TS w (W'.setCell ⟨w.heap.size + 1 + 1, 1, none⟩ (.slice (some ⟨g', 0, none⟩) (n + 1) cap')) cw f c Ac nc g (.slice (some ⟨g', 0, none⟩) (n + 1) cap') (is ++ [x]) S := by
  have hs : w.heap.size + 1 + 1 + 1 < W.heap.size := MapAt.lt h.found
  have hgs : g < W.heap.size := MapAt.lt h.inside
  have e1 : (World.alloc W o1).heap.size = W.heap.size + 1 := by simp
  have e2 : (World.alloc (World.alloc W o1) o2).heap.size = W.heap.size + 1 + 1 := by simp
  have kb : ∀ i, i < W.heap.size → vi.ownBlock ≠ some i → W'.heap[i]? = W.heap[i]? := fun i hi hn =>
    (hgr.block i (by omega) (fun e => hn e.symm)).trans ((Below.heap_alloc _ _ _ (by omega)).trans (Below.heap_alloc _ _ _ hi))
  have nb : ∀ i, i < w.heap.size + 1 + 1 + 1 + 1 → vi.ownBlock ≠ some i := fun i hi e => by have := (h.rowi.own i e).2; omega
  have nw : vi.ownBlock ≠ some W.heap.size := fun e => by have := (h.rowi.own _ e).1; omega
  have ng : vi.ownBlock ≠ some g := h.inrow
  have ko := (kb _ (by omega) (nb _ (by omega))).trans h.out
  have far : ∀ i, i ≠ w.heap.size + 1 + 1 → (W'.setCell ⟨w.heap.size + 1 + 1, 1, none⟩ (.slice (some ⟨g', 0, none⟩) (n + 1) cap')).heap[i]? = W'.heap[i]? := fun i hi => heap_set_far hi
  have hB : Below w.heap.size w W' := by
    have hb2 := b_alloc (b_alloc h.below o1) o2
    exact hb2.grown hgr hb2.size (fun k hk => by have := (h.rowi.own k hk).2; omega)
  refine ⟨ko, (hgr.block _ (by omega) (fun e => nw e.symm)).trans (heap_alloc_old (heap_alloc_at _ _)), below_set1 hB (by omega) _ _, ?_, ?_, heap_set_cell ko 1 _, ?_, h.far, ?_, ?_, ?_, ?_, ?_⟩
  · exact (far _ (by omega)).trans ((kb _ (by omega) (nb _ (by omega))).trans h.r6)
  · exact (far _ (by omega)).trans ((kb _ (by omega) (nb _ (by omega))).trans h.r7)
  · exact MapAt.move h.found ((far _ (by omega)).trans (kb _ (by omega) (nb _ (by omega))))
  · exact MapAt.move h.inside ((far _ (by have := h.far; omega)).trans (kb _ hgs ng))
  · exact h.rowc.move (fun k hk => (far k (by have := (h.rowc.lt k hk).2; omega)).trans (kb k (h.rowc.lt k hk).1 (h.apart k hk).1))
  · have hl : (is ++ [x]).length = n + 1 := by simp [hn]
    have hf : ((is ++ [x]).flatMap fun x => [Value.int .u16 x.at_, .int .i64 x.op, .int .u16 x.operand, .int .u16 x.word, .int .u16 x.next]) = (is.flatMap fun x => [Value.int .u16 x.at_, .int .i64 x.op, .int .u16 x.operand, .int .u16 x.word, .int .u16 x.next]) ++ [.int .u16 x.at_, .int .i64 x.op, .int .u16 x.operand, .int .u16 x.word, .int .u16 x.next] := by simp
    unfold RowI
    rw [hl, hf]
    obtain ⟨h1, h2⟩ := ho
    refine ⟨h1, ?_⟩
    rcases h2 with h2 | ⟨g2, cap2, cur, e, hg2, hh, r⟩
    · exact .inl h2
    · exact .inr ⟨g2, cap2, cur, e, hg2, (far g2 (by omega)).trans hh, r⟩
  · intro k hk
    refine ⟨?_, (h.apart k hk).2⟩
    intro e
    have e' : g' = k := by simpa [Value.ownBlock] using e
    rcases hnew with hn' | hn'
    · exact (h.apart k hk).1 (by rw [← hn', e'])
    · have := (h.rowc.lt k hk).1; omega
  · intro e
    have e' : g' = g := by simpa [Value.ownBlock] using e
    rcases hnew with hn' | hn'
    · exact ng (by rw [← hn', e'])
    · omega

theorem TS.bel {w W W' : World} {cw : Int} {f : List FI} {c : List Int} {Ac : Option Addr} {nc g : Nat} {vi : Value} {is : List FI} {S : List Int} (h : TS w W cw f c Ac nc g vi is S) (hb : Below W.heap.size W W') : TS w W' cw f c Ac nc g vi is S := by
  have hs : w.heap.size + 1 + 1 + 1 < W.heap.size := MapAt.lt h.found
  have hgs : g < W.heap.size := MapAt.lt h.inside
  refine ⟨b_then h.below hb, (hb.block _ (by omega)).trans h.r6, (hb.block _ (by omega)).trans h.r7, (hb.block _ (by omega)).trans h.out, MapAt.below h.found hb, h.far, MapAt.below h.inside hb, h.rowc.below hb, ?_, h.apart, h.inrow⟩
  obtain ⟨h1, h2⟩ := h.rowi
  refine ⟨h1, ?_⟩
  rcases h2 with h2 | ⟨g2, cap2, cur, e, hg2, hh, r⟩
  · exact .inl h2
  · exact .inr ⟨g2, cap2, cur, e, hg2, (hb.block _ (heap_lt hh)).trans hh, r⟩
theorem TS.set_in {w W W' : World} {cw : Int} {f : List FI} {c : List Int} {Ac : Option Addr} {nc g : Nat} {vi : Value} {is : List FI} {S S' : List Int} (h : TS w W cw f c Ac nc g vi is S) (hu : Upd W W' (fun i => i = g)) (hS : SetAt W' g S') : TS w W' cw f c Ac nc g vi is S' := by
  have hs : w.heap.size + 1 + 1 + 1 < W.heap.size := MapAt.lt h.found
  have hgs : g < W.heap.size := MapAt.lt h.inside
  have hf := h.far
  refine ⟨h.below.trans (hu.below (by omega) (fun i hi => by omega)), hu.keep h.r6 (by omega), hu.keep h.r7 (by omega), hu.keep h.out (by omega), MapAt.upd h.found hu (by omega), h.far, hS, h.rowc.move (fun k hk => hu.block k (h.rowc.lt k hk).1 (h.apart k hk).2), ?_, h.apart, h.inrow⟩
  obtain ⟨h1, h2⟩ := h.rowi
  refine ⟨h1, ?_⟩
  rcases h2 with h2 | ⟨g2, cap2, cur, e, hg2, hh, r⟩
  · exact .inl h2
  · refine .inr ⟨g2, cap2, cur, e, hg2, hu.keep hh (fun e2 => h.inrow ?_), r⟩
    rw [e, ← e2]; rfl

/-- The relation of the walk's first loop. -/
structure WR (w W : World) (code T : List Int) (cw : Int) (k : Nat) (r : Except (Int × Int) (List FI × List Int)) (o : List Int) (f : List FI) (c : List Int) : Prop where
  run : wl code T k o f c = some r
  st : WS w W cw o f c
  sorted : o.Pairwise (fun a b => a < b)
  ok : ∀ x ∈ f, x.Ok
  fsorted : f.Pairwise (fun a b => a.at_ < b.at_)
  csorted : c.Pairwise (fun a b => a < b)

theorem MapAt.len {P : Program} {w : World} {r : Nat} {es : Array MapEntry} {clk : Nat} (hb : w.heap[r]? = some (.map es clk)) {t k e : TypeId} (ht : P.underlying t = some (.map k e)) (ty : TypeId) : (Builtin.len_ #[t] ty #[.map (some r)]).run P w = .ok (.int .i64 (es.size : Int)) w := by
  simp [Builtin.len_, run_underlying ht, MapKept.run_getObj_map hb, Result.andThen, goInt]
theorem zero_bool (W : World) : (zeroValue 4).run Tryd.prog W = .ok (.bool false) W := by kernel_rfl
theorem SetAt.in_ {W : World} {b : Nat} {T : List Int} {a : Int} (h : SetAt W b T) (ha : a ∈ T) : (Instr.lookup 80 (.map (some b)) (.int .u16 a) false).run Tryd.prog W = .ok (.bool true) W :=
  MapAt.look_some (P := Tryd.prog) h Tryd.underlying80 Tryd.underlying23 (by simp [setFn, ha]) false
theorem SetAt.out_ {W : World} {b : Nat} {T : List Int} {a : Int} (h : SetAt W b T) (ha : a ∉ T) : (Instr.lookup 80 (.map (some b)) (.int .u16 a) false).run Tryd.prog W = .ok (.bool false) W :=
  MapAt.look_none (P := Tryd.prog) h Tryd.underlying80 Tryd.underlying23 (zero_bool W) (by simp [setFn, ha]) false
theorem RowU.raise {w : World} {base base' : Nat} {v : Value} {ss : List Int} (h : RowU w base v ss) (hb : ∀ k, v.ownBlock = some k → base' ≤ k) : RowU w base' v ss := by
  obtain ⟨h1, h2⟩ := h
  refine ⟨h1, ?_⟩
  rcases h2 with h2 | ⟨g, cap, cur, rfl, hg, r⟩
  · exact .inl h2
  · exact .inr ⟨g, cap, cur, rfl, hb g (by simp [Value.ownBlock]), r⟩
theorem RowU.at_ {W : World} {base : Nat} {A : Option Addr} {n c : Nat} {ss : List Int} (h : RowU W base (.slice A n c) ss) {i : Nat} (hi : i < ss.length) : ∃ g, A = some ⟨g, 0, none⟩ ∧ W.cell? ⟨g, i, none⟩ = some (.int .u16 ss[i]) := by
  rcases h.rw_ with ⟨_, rfl⟩ | ⟨g, c', e, hg, hR⟩
  · simp at hi
  · cases e
    have := hR.cell hi
    rw [List.getD_eq_getElem?_getD, List.getElem?_eq_getElem hi] at this
    exact ⟨g, rfl, this⟩
theorem leads_len (x : FI) : (leadsOf x).length ≤ 2 := by
  unfold leadsOf
  split
  · simp
  · split
    · simp
    · split <;> simp
theorem fFn_some {f : List FI} {n : Int} {v : Value} (h : fFn f n = some v) : ∃ y : FI, v = y.val := by
  unfold fFn at h
  cases hq : f.find? (fun x => x.at_ == n) with
  | none => rw [hq] at h; cases h
  | some y => rw [hq] at h; exact ⟨y, (Option.some.inj h).symm⟩
/-- Two lists that rise and have the same members are one. -/
theorem rise_eq : ∀ (l m : List Int), l.Pairwise (fun a b => a < b) → m.Pairwise (fun a b => a < b) → (∀ x, x ∈ l ↔ x ∈ m) → l = m
  | [], [], _, _, _ => rfl
  | [], b :: m, _, _, h => absurd ((h b).2 List.mem_cons_self) (by simp)
  | a :: l, [], _, _, h => absurd ((h a).1 List.mem_cons_self) (by simp)
  | a :: l, b :: m, hl, hm, h => by
    obtain ⟨l1, l2⟩ := List.pairwise_cons.1 hl
    obtain ⟨m1, m2⟩ := List.pairwise_cons.1 hm
    have e : a = b := by
      rcases List.mem_cons.1 ((h a).1 List.mem_cons_self) with e | e
      · exact e
      · rcases List.mem_cons.1 ((h b).2 List.mem_cons_self) with e' | e'
        · exact e'.symm
        · have := m1 a e; have := l1 b e'; omega
    subst e
    rw [rise_eq l m l2 m2 (fun x => ?_)]
    constructor
    · intro hx
      rcases List.mem_cons.1 ((h x).1 (List.mem_cons_of_mem _ hx)) with e | e
      · have := l1 x hx; omega
      · exact e
    · intro hx
      rcases List.mem_cons.1 ((h x).2 (List.mem_cons_of_mem _ hx)) with e | e
      · have := m1 x hx; omega
      · exact e
theorem fFn_at : ∀ (f : List FI), f.Pairwise (fun a b => a.at_ < b.at_) → ∀ x ∈ f, fFn f x.at_ = some x.val
  | [], _, x, h => by cases h
  | y :: l, hp, x, h => by
    obtain ⟨h1, h2⟩ := List.pairwise_cons.1 hp
    unfold fFn
    rw [List.find?_cons]
    rcases List.mem_cons.1 h with rfl | h
    · simp
    · have := h1 x h
      have e : (y.at_ == x.at_) = false := by simp; omega
      rw [e]
      exact fFn_at l h2 x h
theorem fFn_mem {f : List FI} (n : Int) : (fFn f n).isSome = true ↔ n ∈ f.map FI.at_ := by
  unfold fFn
  rw [Option.isSome_map, List.find?_isSome, List.mem_map]
  constructor
  · rintro ⟨x, hx, e⟩; exact ⟨x, hx, by simpa using e⟩
  · rintro ⟨x, hx, e⟩; exact ⟨x, hx, by simpa using e⟩
theorem ats_sorted {f : List FI} (h : f.Pairwise (fun a b => a.at_ < b.at_)) : (f.map FI.at_).Pairwise (fun a b => a < b) := List.pairwise_map.2 h
/-- The keys of a set in order are the set. -/
theorem keys_set {c ss : List Int} (hc : c.Pairwise (fun a b => a < b)) (h1 : ss.Pairwise (fun a b => a < b)) (h2 : ∀ x, x ∈ ss ↔ (setFn c x).isSome = true) : ss = c :=
  rise_eq ss c h1 hc (fun x => (h2 x).trans setFn_some)
theorem keys_found {f : List FI} {ss : List Int} (hc : f.Pairwise (fun a b => a.at_ < b.at_)) (h1 : ss.Pairwise (fun a b => a < b)) (h2 : ∀ x, x ∈ ss ↔ (fFn f x).isSome = true) : ss = f.map FI.at_ :=
  rise_eq ss _ h1 (ats_sorted hc) (fun x => (h2 x).trans (fFn_mem x))
theorem nodup_sub : ∀ (l m : List Int), l.Nodup → (∀ x ∈ l, x ∈ m) → l.length ≤ m.length
  | [], m, _, _ => by simp
  | a :: l, m, hn, h => by
    obtain ⟨h1, h2⟩ := List.nodup_cons.1 hn
    have ha := h a List.mem_cons_self
    have := nodup_sub l (m.erase a) h2 (fun x hx => (List.mem_erase_of_ne (a := x) (b := a) (fun e => h1 (by rw [← e]; exact hx))).2 (h x (List.mem_cons_of_mem _ hx)))
    rw [List.length_erase_of_mem ha] at this
    have hp : 0 < m.length := List.length_pos_of_mem ha
    simp only [List.length_cons]
    omega
theorem keys_len {c ss : List Int} (h : KeysOf (setFn c) ss) : ss.length ≤ c.length := nodup_sub ss c h.1 (fun x hx => setFn_some.1 ((h.2 x).1 hx))
theorem keys_lenF {f : List FI} {ss : List Int} (h : KeysOf (fFn f) ss) : ss.length ≤ f.length := by
  have := nodup_sub ss (f.map FI.at_) h.1 (fun x hx => (fFn_mem x).1 ((h.2 x).1 hx))
  simpa using this
theorem push_sorted (f : List FI) : ∀ (l o : List Int), o.Pairwise (fun a b => a < b) → (l.foldl (push f) o).Pairwise (fun a b => a < b)
  | [], o, h => h
  | x :: l, o, h => push_sorted f l _ (by unfold push; split; exact h; exact ins_sorted x o h)
theorem zero_instr (W : World) : (zeroValue 60).run Tryd.prog W = .ok (.agg #[.int .u16 0, .int .i64 0, .int .u16 0, .int .u16 0, .int .u16 0]) W := by kernel_rfl
/-- After an instruction is found. -/
theorem WS.find {w W W' : World} {cw : Int} {o : List Int} {f : List FI} {c : List Int} {a p q r s : Int} {X : FI} (h : WS w W cw o f c) (hX : X.val = .agg #[.int .u16 a, .int .i64 p, .int .u16 q, .int .u16 r, .int .u16 s]) (ha : X.at_ = a) (ob : Obj)
    (m1 : MapAt W' (w.heap.size + 1 + 1 + 1) (fun j => if j = a then some (.agg #[.int .u16 a, .int .i64 p, .int .u16 q, .int .u16 r, .int .u16 s]) else fFn f j)) (m2 : Upd (W.alloc ob) W' (fun i => i = w.heap.size + 1 + 1 + 1)) :
    WS w W' cw o (insI X f) c ∧ W'.heap[W.heap.size]? = some ob := by
  have h' := h.bel (W' := W.alloc ob) ((Below.refl _ _).alloc (Nat.le_refl _) _)
  have hs := h.size
  refine ⟨h'.set_found m2 (MapAt.ext m1 (fun n => ?_)), m2.keep (heap_alloc_at _ _) (by omega)⟩
  rw [fFn_ins, ha, hX]
theorem SetAt.put_ {W W' : World} {b : Nat} {S : List Int} {x : Int} (h : SetAt W b S) (m1 : MapAt W' b (fun j => if j = x then some (.bool true) else setFn S j)) : SetAt W' b (ins x S) :=
  MapAt.ext m1 (fun n => by
    unfold setFn
    by_cases e : n = x
    · subst e; simp [mem_ins]
    · simp [mem_ins, e])
theorem cells3 {w : World} {b : Nat} {v0 v1 v2 : Value} {t : TypeId} (h : w.heap[b]? = some (.cells #[v0, v1, v2] t (0, 0))) :
    (w.cell? ⟨b, 0, none⟩ = some v0 ∧ w.cell? ⟨b, 1, none⟩ = some v1 ∧ w.cell? ⟨b, 2, none⟩ = some v2) ∧ w.frozen? ⟨b, 0, none⟩ = false ∧ w.frozen? ⟨b, 1, none⟩ = false ∧ w.frozen? ⟨b, 2, none⟩ = false :=
  ⟨⟨cell_of h 0, cell_of h 1, cell_of h 2⟩, free_of h 0, free_of h 1, free_of h 2⟩
theorem cells2 {w : World} {b : Nat} {v0 v1 : Value} {t : TypeId} (h : w.heap[b]? = some (.cells #[v0, v1] t (0, 0))) :
    (w.cell? ⟨b, 0, none⟩ = some v0 ∧ w.cell? ⟨b, 1, none⟩ = some v1) ∧ w.frozen? ⟨b, 0, none⟩ = false ∧ w.frozen? ⟨b, 1, none⟩ = false :=
  ⟨⟨cell_of h 0, cell_of h 1⟩, free_of h 0, free_of h 1⟩
/-- The two results are written. -/
theorem tail_word {P : Program} {fn : Func} {Q : Ending → World → Prop} {act : Act} {w W : World} {u0 u1 u2 u3 u4 v0 v1 v2 v3 v4 : Value}
    (h6 : W.heap[w.heap.size]? = some (.cells #[v0, v1, v2] 53 (0, 0))) (h7 : W.heap[w.heap.size + 1]? = some (.cells #[v3, v4] 33 (0, 0))) (hB : Below w.heap.size w W)
    (k : ∀ V, V.heap[w.heap.size]? = some (.cells #[u0, u1, u2] 53 (0, 0)) → V.heap[w.heap.size + 1]? = some (.cells #[u3, u4] 33 (0, 0)) → Upd W V (fun i => i = w.heap.size ∨ i = w.heap.size + 1) → Below w.heap.size w V → bodyPost P fn Q Exit.ret act V) :
    bodyPost P fn Q Exit.ret act (World.setCell (World.setCell (World.setCell (World.setCell (World.setCell W ⟨w.heap.size, 0, none⟩ u0) ⟨w.heap.size, 1, none⟩ u1) ⟨w.heap.size, 2, none⟩ u2) ⟨w.heap.size + 1, 0, none⟩ u3) ⟨w.heap.size + 1, 1, none⟩ u4) := by
  have e6 := heap_set_cell (heap_set_cell (heap_set_cell h6 0 u0) 1 u1) 2 u2
  have f7 : (World.setCell (World.setCell (World.setCell W ⟨w.heap.size, 0, none⟩ u0) ⟨w.heap.size, 1, none⟩ u1) ⟨w.heap.size, 2, none⟩ u2).heap[w.heap.size + 1]? = some (.cells #[v3, v4] 33 (0, 0)) :=
    (heap_set_far (by omega)).trans ((heap_set_far (by omega)).trans ((heap_set_far (by omega)).trans h7))
  have e7 := heap_set_cell (heap_set_cell f7 0 u3) 1 u4
  have le := Nat.le_refl w.heap.size
  refine k _ ((heap_set_far (by omega)).trans ((heap_set_far (by omega)).trans e6)) e7 ?_ (below_set1 (below_set1 (below_set1 (below_set1 (below_set1 hB le _ _) le _ _) le _ _) (by omega) _ _) (by omega) _ _)
  exact (((((Upd.refl _ _).setCell (p := ⟨w.heap.size, 0, none⟩) (fun _ => .inl rfl) _).setCell (p := ⟨w.heap.size, 1, none⟩) (fun _ => .inl rfl) _).setCell (p := ⟨w.heap.size, 2, none⟩) (fun _ => .inl rfl) _).setCell (p := ⟨w.heap.size + 1, 0, none⟩) (fun _ => .inr rfl) _).setCell (p := ⟨w.heap.size + 1, 1, none⟩) (fun _ => .inr rfl) _
/-- What word leaves. -/
def WordPost (w : World) (cw : Int) (r : Except (Int × Int) FW) (e : Ending) (w' : World) : Prop :=
  Below w.heap.size w w' ∧ match r with
    | .error (z, a) => e = .returned (.tuple #[.agg #[.int .u16 0, .slice none 0 0, .slice none 0 0], .agg #[.int .i64 z, .int .u16 a]])
    | .ok x => ∃ vi vc, e = .returned (.tuple #[.agg #[.int .u16 x.at_, vi, vc], .agg #[.int .i64 0, .int .u16 0]]) ∧ RowI w' w.heap.size vi x.instrs ∧ RowU w' w.heap.size vc x.calls ∧ ∀ k, vc.ownBlock = some k → vi.ownBlock ≠ some k
theorem alloc_at {W : World} {n : Nat} (o : Obj) (h : W.heap.size = n) : (W.alloc o).heap[n]? = some o := by subst h; exact heap_alloc_at _ _
theorem fresh_map {W : World} {n : Nat} (h : W.heap.size = n) : MapAt (W.alloc (.map #[] 0)) n (fun _ => none) := by
  subst h
  exact ⟨⟨#[], 0, heap_alloc_at _ _, IMap.empty _⟩, fun _ _ h => by cases h⟩

theorem ws_start {w w1 : World} {q : Nat} {cw x : Int} (m1 : MapAt w1 (w.heap.size + 1 + 1 + 1 + 1 + 1) (fun j => if j = x then some (.bool true) else none))
    (m2 : Upd (World.alloc (World.alloc (World.alloc (World.alloc (World.drewN (World.alloc (World.alloc w (.cells #[.int .u16 0, .slice none 0 0, .slice none 0 0] 53)) (.cells #[.int .i64 0, .int .u16 0] 33)) q) (.cells #[.int .u16 cw, .slice none 0 0, .slice none 0 0] 53)) (.map #[] 0)) (.map #[] 0)) (.map #[] 0)) w1 (fun i => i = w.heap.size + 1 + 1 + 1 + 1 + 1)) :
    WS w w1 cw [x] [] [] := by
  have hB : Below w.heap.size w (World.alloc (World.alloc (World.alloc (World.alloc (World.drewN (World.alloc (World.alloc w (.cells #[.int .u16 0, .slice none 0 0, .slice none 0 0] 53)) (.cells #[.int .i64 0, .int .u16 0] 33)) q) (.cells #[.int .u16 cw, .slice none 0 0, .slice none 0 0] 53)) (.map #[] 0)) (.map #[] 0)) (.map #[] 0)) :=
    b_alloc (b_alloc (b_alloc (b_alloc (b_drewN (b_alloc (b_alloc (Below.refl _ _) _) _) q) _) _) _) _
  have e0 := heap_alloc_old (o' := .map #[] 0) (heap_alloc_old (o' := .map #[] 0) (heap_alloc_old (o' := .map #[] 0) (heap_alloc_old (o' := .cells #[.int .u16 cw, .slice none 0 0, .slice none 0 0] 53) (show (World.drewN (World.alloc (World.alloc w (.cells #[.int .u16 0, .slice none 0 0, .slice none 0 0] 53)) (.cells #[.int .i64 0, .int .u16 0] 33)) q).heap[w.heap.size]? = _ from heap_alloc_old (heap_alloc_at w _)))))
  have e1 := heap_alloc_old (o' := .map #[] 0) (heap_alloc_old (o' := .map #[] 0) (heap_alloc_old (o' := .map #[] 0) (heap_alloc_old (o' := .cells #[.int .u16 cw, .slice none 0 0, .slice none 0 0] 53) (show (World.drewN (World.alloc (World.alloc w (.cells #[.int .u16 0, .slice none 0 0, .slice none 0 0] 53)) (.cells #[.int .i64 0, .int .u16 0] 33)) q).heap[w.heap.size + 1]? = _ from alloc_at _ (by simp)))))
  have e2 := heap_alloc_old (o' := .map #[] 0) (heap_alloc_old (o' := .map #[] 0) (heap_alloc_old (o' := .map #[] 0) (alloc_at (W := (World.drewN (World.alloc (World.alloc w (.cells #[.int .u16 0, .slice none 0 0, .slice none 0 0] 53)) (.cells #[.int .i64 0, .int .u16 0] 33)) q)) (n := w.heap.size + 1 + 1) (.cells #[.int .u16 cw, .slice none 0 0, .slice none 0 0] 53) (by simp))))
  have e3 := heap_alloc_old (o' := .map #[] 0) (heap_alloc_old (o' := .map #[] 0) (alloc_at (W := World.alloc (World.drewN (World.alloc (World.alloc w (.cells #[.int .u16 0, .slice none 0 0, .slice none 0 0] 53)) (.cells #[.int .i64 0, .int .u16 0] 33)) q) (.cells #[.int .u16 cw, .slice none 0 0, .slice none 0 0] 53)) (n := w.heap.size + 1 + 1 + 1) (.map #[] 0) (by simp)))
  have e4 := heap_alloc_old (o' := .map #[] 0) (alloc_at (W := World.alloc (World.alloc (World.drewN (World.alloc (World.alloc w (.cells #[.int .u16 0, .slice none 0 0, .slice none 0 0] 53)) (.cells #[.int .i64 0, .int .u16 0] 33)) q) (.cells #[.int .u16 cw, .slice none 0 0, .slice none 0 0] 53)) (.map #[] 0)) (n := w.heap.size + 1 + 1 + 1 + 1) (.map #[] 0) (by simp))
  exact ⟨hB.trans (m2.below (by simp; omega) (fun i hi => by omega)), m2.keep e0 (by omega), m2.keep e1 (by omega), m2.keep e2 (by omega),
    ⟨⟨_, _, m2.keep e3 (by omega), IMap.empty _⟩, fun _ _ h => by cases h⟩,
    MapAt.ext (f := fun _ => none) ⟨⟨_, _, m2.keep e4 (by omega), IMap.empty _⟩, fun _ _ h => by cases h⟩ (fun n => by simp [setFn]),
    MapAt.ext m1 (fun n => by simp [setFn])⟩

set_option maxRecDepth 100000 in
set_option maxHeartbeats 4000000 in
/-- The code field is no enter. -/
theorem word_none (w : World) (A : Option Addr) (c : Nat) (code : List Int) (cw : Int) (bt : Nat) (h : CodeIn w A code) (h0 : 0 ≤ cw) (h1 : cw < 65536) (hc : cellOf code cw ≠ some 1) :
    Calls Tryd.prog 33 #[.slice A code.length c, .int .u16 cw, .map (some bt)] w fun e w' => WordPost w cw (.error (163, cw)) e w' := by
  have E : Hid (∀ W, Below w.heap.size w W → Calls Tryd.prog 51 #[.slice A code.length c, .int .u16 cw] W fun e w' => e = .returned (.tuple #[.int .u16 ((cellOf code cw).getD 0), .bool (cellOf code cw).isSome]) ∧ Quiet W w') := fun W hW => cell_any W A c code cw (h.below hW) h0 h1
  clear h
  have start : Hid (∀ q, (World.drewN (World.alloc (World.alloc w (.cells #[.int .u16 0, .slice none 0 0, .slice none 0 0] 53)) (.cells #[.int .i64 0, .int .u16 0] 33)) q).heap[w.heap.size]? = some (.cells #[.int .u16 0, .slice none 0 0, .slice none 0 0] 53 (0, 0)) ∧
      (World.drewN (World.alloc (World.alloc w (.cells #[.int .u16 0, .slice none 0 0, .slice none 0 0] 53)) (.cells #[.int .i64 0, .int .u16 0] 33)) q).heap[w.heap.size + 1]? = some (.cells #[.int .i64 0, .int .u16 0] 33 (0, 0))) := fun q => by
    constructor
    · show (World.alloc (World.alloc w _) _).heap[w.heap.size]? = _
      exact heap_alloc_old (heap_alloc_at w _)
    · show (World.alloc (World.alloc w _) _).heap[w.heap.size + 1]? = _
      exact alloc_at _ (by simp)
  cases hv : cellOf code cw with
  | none =>
    rw [hv] at E
    clear hv hc
    go_enter Tryd.func33, Tryd.ntmps33
    go_wp2_with (go_at_call 51; refine (E.out _ (by repeat (first | exact Below.refl _ _ | apply b_alloc | apply b_drewN))).mono ?_; rintro e W ⟨rfl, q, rfl⟩)
    refine tail_word (start.out q).1 (start.out q).2 (b_drewN (b_alloc (b_alloc (Below.refl _ _) _) _) q) ?_
    intro V g6 g7 _ hB
    obtain ⟨⟨x0, x1, x2⟩, _⟩ := cells3 g6
    obtain ⟨⟨x3, x4⟩, _⟩ := cells2 g7
    refine bodyPost_ret (v := .tuple #[.agg #[.int .u16 0, .slice none 0 0, .slice none 0 0], .agg #[.int .i64 163, .int .u16 cw]]) (by simp [results, Tryd.results33, go_sem, x0, x1, x2, x3, x4]) rfl ⟨hB, rfl⟩
  | some v =>
    rw [hv] at E hc
    have hn : v ≠ 1 := fun e => hc (by rw [e])
    have hb : (v != 1) = true := by simp [hn]
    clear hv hc
    go_enter Tryd.func33, Tryd.ntmps33
    go_wp2_with (go_at_call 51; refine (E.out _ (by repeat (first | exact Below.refl _ _ | apply b_alloc | apply b_drewN))).mono ?_; rintro e W ⟨rfl, q, rfl⟩)
    refine tail_word (start.out q).1 (start.out q).2 (b_drewN (b_alloc (b_alloc (Below.refl _ _) _) _) q) ?_
    intro V g6 g7 _ hB
    obtain ⟨⟨x0, x1, x2⟩, _⟩ := cells3 g6
    obtain ⟨⟨x3, x4⟩, _⟩ := cells2 g7
    refine bodyPost_ret (v := .tuple #[.agg #[.int .u16 0, .slice none 0 0, .slice none 0 0], .agg #[.int .i64 163, .int .u16 cw]]) (by simp [results, Tryd.results33, go_sem, x0, x1, x2, x3, x4]) rfl ⟨hB, rfl⟩
end Go.Proofs.YtabeljpnmmfpgaaDoor

namespace Go.Proofs.YtabeljpnmmfpgaaDoor
open Go.RowKit Go.MapKept Go.Maps Go.Sort
set_option linter.unusedVariables false
set_option linter.unusedSimpArgs false

theorem tail_word_d {P : Program} {fn : Func} {Q : Ending → World → Prop} {act : Act} {w W : World} {u0 u1 u2 u3 u4 v0 v1 v2 v3 v4 : Value}
    (h6 : W.heap[w.heap.size]? = some (.cells #[v0, v1, v2] 53 (0, 0))) (h7 : W.heap[w.heap.size + 1]? = some (.cells #[v3, v4] 33 (0, 0))) (hB : Below w.heap.size w W)
    (k : ∀ V, V.heap[w.heap.size]? = some (.cells #[u0, u1, u2] 53 (0, 0)) → V.heap[w.heap.size + 1]? = some (.cells #[u3, u4] 33 (0, 0)) → Below w.heap.size w V → bodyPost P fn Q Exit.ret act V) :
    bodyPost P fn Q Exit.ret act (World.drew (World.setCell (World.setCell (World.setCell (World.setCell (World.setCell W ⟨w.heap.size, 0, none⟩ u0) ⟨w.heap.size, 1, none⟩ u1) ⟨w.heap.size, 2, none⟩ u2) ⟨w.heap.size + 1, 0, none⟩ u3) ⟨w.heap.size + 1, 1, none⟩ u4)) := by
  have e6 := heap_set_cell (heap_set_cell (heap_set_cell h6 0 u0) 1 u1) 2 u2
  have f7 : (World.setCell (World.setCell (World.setCell W ⟨w.heap.size, 0, none⟩ u0) ⟨w.heap.size, 1, none⟩ u1) ⟨w.heap.size, 2, none⟩ u2).heap[w.heap.size + 1]? = some (.cells #[v3, v4] 33 (0, 0)) :=
    (heap_set_far (by omega)).trans ((heap_set_far (by omega)).trans ((heap_set_far (by omega)).trans h7))
  have e7 := heap_set_cell (heap_set_cell f7 0 u3) 1 u4
  have le := Nat.le_refl w.heap.size
  have key : ∀ V : World, V.heap[w.heap.size]? = some (.cells #[u0, u1, u2] 53 (0, 0)) → V.heap[w.heap.size + 1]? = some (.cells #[u3, u4] 33 (0, 0)) → Below w.heap.size w V → bodyPost P fn Q Exit.ret act V.drew := fun V a b c => k V.drew a b c.drew
  exact key _ ((heap_set_far (by omega)).trans ((heap_set_far (by omega)).trans e6)) e7 (below_set1 (below_set1 (below_set1 (below_set1 (below_set1 hB le _ _) le _ _) le _ _) (by omega) _ _) (by omega) _ _)
theorem clash_at {f : List FI} {i : Nat} {x : FI} (h1 : i ≤ f.length) (h2 : i < f.length) (hx : x = f[i]) (h3 : ∀ y ∈ f.take i, y.at_ ∉ insOf f) (h4 : x.at_ ∈ insOf f) : clash f = some x.at_ := by
  have key : ∀ y : FI, (f.any fun z => hasOperand z.op && (IntKind.u16.wrap (z.at_ + 2) == y.at_)) = true ↔ y.at_ ∈ insOf f := fun y => by
    rw [mem_insOf, List.any_eq_true]
    constructor
    · rintro ⟨z, hz, e⟩
      simp at e
      exact ⟨z, hz, e.1, e.2.symm⟩
    · rintro ⟨z, hz, e1, e2⟩
      exact ⟨z, hz, by simp [e1, e2]⟩
  unfold clash
  have e : f.find? (fun y => f.any fun z => hasOperand z.op && (IntKind.u16.wrap (z.at_ + 2) == y.at_)) = some x := by
    rw [List.find?_eq_some_iff_append]
    refine ⟨(key x).2 h4, f.take i, f.drop (i + 1), ?_, fun y hy => ?_⟩
    · rw [hx, List.getElem_cons_drop, List.take_append_drop]
    · rw [Bool.not_eq_true', Bool.eq_false_iff]
      exact fun h => h3 y hy ((key y).1 h)
  rw [e]; rfl

set_option maxRecDepth 100000 in
set_option maxHeartbeats 4000000 in
theorem word_any (w : World) (A : Option Addr) (c : Nat) (code : List Int) (cw : Int) (bt : Nat) (T : List Int) (h : CodeIn w A code) (ht : Tab w) (hT : SetAt w bt T) (h0 : 0 ≤ cw) (h1 : cw < 65536)
    (k : Nat) (r : Except (Int × Int) (List FI × List Int)) (hc : cellOf code cw = some 1) (hr : wl code T k [IntKind.u16.wrap (cw + 2)] [] [] = some r) (hk : ∀ f cc, r = .ok (f, cc) → f.length ≤ sortMax ∧ cc.length ≤ sortMax) :
    Calls Tryd.prog 33 #[.slice A code.length c, .int .u16 cw, .map (some bt)] w fun e w' => WordPost w cw (endOf cw r) e w' := by
  have E := Lib.hid (InstrEnv.mk' (c := c) h ht)
  have EB := Lib.hid h.byte
  have EI : Hid (∀ W a, Below w.heap.size w W → 0 ≤ a → a < 65536 → Calls Tryd.prog 52 #[.slice A code.length c, .int .u16 a] W fun e w' => e = .returned (.tuple #[(lookAt code a).1.val, .int .i64 (lookAt code a).2]) ∧ Below W.heap.size W w') := fun W a hW h0 h1 => instr_any W A c code a (h.below hW) (ht.below hW) h0 h1
  have HT := Lib.hid hT
  have HR := Lib.hid hr
  have HK := Lib.hid hk
  have hmm := @run_makeMap Tryd.prog
  clear h ht hT hr hk
  go_enter Tryd.func33, Tryd.ntmps33
  go_wp2_with (first
    | (go_at_call 51; refine (E.out.cell _ _ (by repeat (first | exact Below.refl _ _ | apply b_alloc | apply b_drewN)) h0 h1).mono ?_; rintro e W ⟨rfl, q, rfl⟩)
    | (refine wpList_map_ins rfl (.tmp 46) (.tmp 48) (.const (.bool true)) 80 rfl 23 4 Tryd.underlying80 Tryd.underlying23 (w.heap.size + 1 + 1 + 1 + 1 + 1) (fun _ => none) rfl (fresh_map ?hsz) _ (wrap16_range _) _ rfl rfl ?_; (case hsz => simp; done); intro w1 m1 m2; have START := Lib.hid (ws_start m1 m2); clear m1 m2))
  go_loopg [] k (fun kq W => ∃ (o : List Int) (f : List FI) (cc : List Int), Hid (WR w W code T cw kq r o f cc))
  case atStart => exact ⟨_, _, _, HR.out, START.out, by simp, by simp, by simp, by simp⟩
  case round =>
    obtain ⟨o, f, cc, hh⟩ := hrel
    cases gk with
    | zero => exact absurd hh.out.run (by simp [wl])
    | succ k1 =>
      obtain ⟨es, clk, hb13, hs1, hs2⟩ := MapAt.size hh.out.st.opn
      cases o with
      | nil =>
        have hre : r = .ok (f, cc) := by
          have := hh.out.run
          unfold wl at this
          exact (Option.some.inj this).symm
        subst hre
        have h00 : es.size = 0 := hs2.2 (fun n => by simp [setFn])
        have hlen := MapAt.len (P := Tryd.prog) hb13 (t := 80) Tryd.underlying80 3
        rw [h00] at hlen
        have SO : Hid (Calls Tryd.prog 54 #[.func (.func 67) #[] #[.pointer (some ⟨wr.heap.size, 0, none⟩)]] (wr.alloc (.cells #[.map (some (w.heap.size + 1 + 1 + 1 + 1))] 80)) fun e w' => ∃ Ac nc, e = .returned (.slice Ac cc.length nc) ∧ RowU w' w.heap.size (.slice Ac cc.length nc) cc ∧ WS w w' cw [] f cc ∧ (∀ k, (Value.slice Ac cc.length nc).ownBlock = some k → w.heap.size + 1 + 1 + 1 + 1 + 1 < k)) := by
          have hb : Below wr.heap.size wr (wr.alloc (.cells #[.map (some (w.heap.size + 1 + 1 + 1 + 1))] 80)) := (Below.refl _ _).alloc (Nat.le_refl _) _
          have st := hh.out.st.bel hb
          refine (sortedS_any st.calls (by rw [cell_of (heap_alloc_at wr _)]; rfl) (by simp) (fun ss hs => Nat.le_trans (keys_len hs) (HK.out f cc rfl).2)).mono ?_
          rintro e w' ⟨v, rfl, ss, k1, k2, k3, k4⟩
          have e := keys_set hh.out.csorted k1 k2
          rw [e] at k3
          have hsz := st.size
          obtain ⟨Ac, nc, rfl⟩ := k3.slice
          exact ⟨Ac, nc, rfl, k3.lower (by omega), st.bel k4, fun k hk => by have := (k3.lt k hk).2; omega⟩
        have SF : Hid (∀ W1 Ac nc, WS w W1 cw [] f cc → RowU W1 w.heap.size (.slice Ac cc.length nc) cc → (∀ k, (Value.slice Ac cc.length nc).ownBlock = some k → w.heap.size + 1 + 1 + 1 + 1 + 1 < k) →
            Calls Tryd.prog 54 #[.func (.func 69) #[] #[.pointer (some ⟨W1.heap.size + 1, 0, none⟩)]] (World.alloc (World.alloc (W1.setCell ⟨w.heap.size + 1 + 1, 2, none⟩ (.slice Ac cc.length nc)) (.map #[] 0)) (.cells #[.map (some (w.heap.size + 1 + 1 + 1))] 109)) fun e w' =>
              ∃ Ai ni, e = .returned (.slice Ai f.length ni) ∧ RowU w' (W1.heap.size + 1) (.slice Ai f.length ni) (f.map FI.at_) ∧ TS w w' cw f cc Ac nc W1.heap.size (.slice none 0 0) [] []) := by
          intro W1 Ac nc st rc rn
          have hsz := st.size
          obtain ⟨Wc, hWc⟩ : ∃ Wc, Wc = World.alloc (World.alloc (W1.setCell ⟨w.heap.size + 1 + 1, 2, none⟩ (.slice Ac cc.length nc)) (.map #[] 0)) (.cells #[.map (some (w.heap.size + 1 + 1 + 1))] 109) := ⟨_, rfl⟩
          have sz : Wc.heap.size = W1.heap.size + 1 + 1 := by rw [hWc]; simp [World.setCell]
          have szb : (World.alloc (W1.setCell ⟨w.heap.size + 1 + 1, 2, none⟩ (.slice Ac cc.length nc)) (.map #[] 0)).heap.size = W1.heap.size + 1 := by simp [World.setCell]
          have sza : (W1.setCell ⟨w.heap.size + 1 + 1, 2, none⟩ (.slice Ac cc.length nc)).heap.size = W1.heap.size := by simp [World.setCell]
          have hb : Below W1.heap.size (W1.setCell ⟨w.heap.size + 1 + 1, 2, none⟩ (.slice Ac cc.length nc)) Wc := by
            rw [hWc]
            exact ((Below.refl _ _).alloc (by omega) _).alloc (by omega) _
          have k0 : ∀ i, i < W1.heap.size → i ≠ w.heap.size + 1 + 1 → Wc.heap[i]? = W1.heap[i]? := fun i hi hn => (hb.block i hi).trans (heap_set_far hn)
          have ko : Wc.heap[w.heap.size + 1 + 1]? = some (.cells #[.int .u16 cw, .slice none 0 0, .slice Ac cc.length nc] 53 (0, 0)) := (hb.block _ (by omega)).trans (heap_set_cell st.out 2 _)
          have km : Wc.heap[W1.heap.size]? = some (.map #[] 0) := by rw [hWc]; exact heap_alloc_old (alloc_at _ sza)
          have kx : Wc.heap[W1.heap.size + 1]? = some (.cells #[.map (some (w.heap.size + 1 + 1 + 1))] 109 (0, 0)) := by rw [hWc]; exact alloc_at _ szb
          have hBc : Below w.heap.size w Wc := (below_set1 st.below (by omega) 2 _).trans ⟨hb.os, hb.tape, hb.output, hb.size, fun i hi => hb.block i (by omega)⟩
          rw [← hWc]
          clear hWc hb szb sza
          refine (sortedF_any (MapAt.move st.found (k0 _ (by omega) (by omega))) (by rw [cell_of kx]; rfl) (by rw [sz]; omega) (fun ss hs => Nat.le_trans (keys_lenF hs) (HK.out f cc rfl).1)).mono ?_
          rintro e w' ⟨v, rfl, ss, k1, k2, k3, k4⟩
          have e := keys_found hh.out.fsorted k1 k2
          subst e
          obtain ⟨Ai, ni, rfl⟩ := k3.slice
          have kk : ∀ i, i < W1.heap.size + 1 + 1 → w'.heap[i]? = Wc.heap[i]? := fun i hi => k4.block i (by rw [sz]; exact hi)
          have el : (f.map FI.at_).length = f.length := by simp
          rw [el] at k3 ⊢
          refine ⟨Ai, ni, rfl, k3.lower (by rw [sz]; omega), ?_, (kk _ (by omega)).trans ((k0 _ (by omega) (by omega)).trans st.r6), (kk _ (by omega)).trans ((k0 _ (by omega) (by omega)).trans st.r7), (kk _ (by omega)).trans ko, MapAt.move st.found ((kk _ (by omega)).trans (k0 _ (by omega) (by omega))), by omega, ?_, ?_, World.ownsRow_nil _ _ _ _, fun k hk => ⟨by simp [Value.ownBlock], ?_⟩, by simp [Value.ownBlock]⟩
          · exact b_then hBc k4
          · exact MapAt.ext (f := fun _ => none) ⟨⟨#[], 0, (kk _ (by omega)).trans km, IMap.empty _⟩, fun _ _ h => by cases h⟩ (fun n => by simp [setFn])
          · exact (rc.raise (fun k hk => by have := rn k hk; omega)).move (fun k hk => (kk k (by have := (rc.lt k hk).1; omega)).trans (k0 k (rc.lt k hk).1 (by have := rn k hk; omega)))
          · have := (rc.lt k hk).1; omega
        clear hs1 hs2 hb13 h00
        go_wp2_with (first
          | (go_at_call 50; refine (keysS_any _ _).mono ?_; rintro e W ⟨rfl, rfl⟩)
          | (go_at_call_has 54 (Value.func (.func 67) #[] #[.pointer (some ⟨wr.heap.size, 0, none⟩)]); refine SO.out.mono ?_; rintro e W1 ⟨Ac, nc, rfl, r1, r2, r3⟩; have RC := Lib.hid r1; have ST := Lib.hid r2; have RN := Lib.hid r3; obtain ⟨⟨x0, x1, x2⟩, y0, y1, y2⟩ := cells3 r2.out; clear r1 r2 r3)
          | (go_at_call 55; refine (keysF_any _ _).mono ?_; rintro e W ⟨rfl, rfl⟩)
          | (go_at_call 54; refine (SF.out _ _ _ ST.out RC.out RN.out).mono ?_; rintro e W2 ⟨Ai, ni, rfl, q1, q2⟩; have RA := Lib.hid q1; have TT := Lib.hid q2; clear q1 q2 x0 x1 x2 y0 y1 y2))
        go_loopw [109] (fun p W => ∃ i : Nat, p = .int .i64 (i : Int) ∧ i ≤ f.length ∧ ∃ vi, Hid (TS w W cw f cc Ac nc W1.heap.size vi (f.take i) (insOf (f.take i)) ∧ RowU W (W1.heap.size + 1) (.slice Ai f.length ni) (f.map FI.at_) ∧ ∀ k, (Value.slice Ai f.length ni).ownBlock = some k → vi.ownBlock ≠ some k)) (fun p _ => f.length - (intOf p).toNat)
        case atStart => exact ⟨0, rfl, Nat.zero_le _, _, TT.out, RA.out, fun k _ => by simp [Value.ownBlock]⟩
        case round =>
          obtain ⟨i, rfl, hi, vi, hw⟩ := hrel
          by_cases hlt : i < f.length
          · obtain ⟨g, rfl, hcell⟩ := hw.out.2.1.at_ (i := i) (by simpa using hlt)
            have hfx := fFn_at f hh.out.fsorted f[i] (List.getElem_mem hlt)
            have hxo := hh.out.ok f[i] (List.getElem_mem hlt)
            have hmap : (f.map FI.at_)[i]'(by simpa using hlt) = f[i].at_ := by simp
            rw [hmap] at hcell
            obtain ⟨x, hx⟩ : ∃ x, x = f[i] := ⟨_, rfl⟩
            rw [← hx] at hcell hfx hxo
            have HX := Lib.hid hx
            have HXO := Lib.hid hxo
            have hl : (Instr.lookup 109 (.map (some (w.heap.size + 1 + 1 + 1))) (.int .u16 x.at_) false).run Tryd.prog wr = .ok (.agg #[.int .u16 x.at_, .int .i64 x.op, .int .u16 x.operand, .int .u16 x.word, .int .u16 x.next]) wr :=
              MapAt.look_some (P := Tryd.prog) hw.out.1.found Tryd.underlying109 Tryd.underlying23 hfx false
            have di : decide ((i : Int) < (f.length : Int)) = true := by simp; omega
            have bi0 : (0 : Int) ≤ (i : Int) := by omega
            have bi : (i : Int) < (f.length : Int) := by omega
            clear hx hmap hfx hxo
            obtain ⟨⟨x0, x1, x2⟩, y0, y1, y2⟩ := cells3 hw.out.1.out
            have z1 := cell_alloc_old (o := .cells #[.int .u16 x.at_, .int .i64 x.op, .int .u16 x.operand, .int .u16 x.word, .int .u16 x.next] 60) x1
            obtain ⟨i0, hi0, hz0, hz1, hz2⟩ := info_parts infoInstr
            have RO : Hid (wr.ownsRow (w.heap.size + 1 + 1 + 1 + 1) 60 5 vi (f.take i).length ((f.take i).flatMap fun x => [.int .u16 x.at_, .int .i64 x.op, .int .u16 x.operand, .int .u16 x.word, .int .u16 x.next])) := hw.out.1.rowi
            have KEEP : Hid (∀ (w3 : World) (v : Value), World.grownBy (World.alloc (World.alloc wr (.cells #[.int .u16 x.at_, .int .i64 x.op, .int .u16 x.operand, .int .u16 x.word, .int .u16 x.next] 60)) (.cells #[.int .u16 x.at_, .int .i64 x.op, .int .u16 x.operand, .int .u16 x.word, .int .u16 x.next] 60)) w3 vi.ownBlock → RowU (w3.setCell ⟨w.heap.size + 1 + 1, 1, none⟩ v) (W1.heap.size + 1) (.slice (some ⟨g, 0, none⟩) f.length ni) (f.map FI.at_)) := fun w3 v hgr => by
              refine hw.out.2.1.move (fun k hk => ?_)
              have q1 := hw.out.2.1.lt k hk
              have q2 := hw.out.2.2 k hk
              have q3 := hw.out.1.far
              exact (heap_set_far (by omega)).trans ((hgr.block k (by simp; omega) (fun e => q2 e.symm)).trans ((Below.heap_alloc _ _ _ (by simp; omega)).trans (Below.heap_alloc _ _ _ q1.1)))
            have TK : Hid (f.take (i + 1) = f.take i ++ [x]) := by
              have := List.take_append_getElem hlt
              rw [HX.out]
              exact this.symm
            have h12 : (f.take i).length ≤ 60000 := Nat.le_trans (by rw [List.length_take]; exact Nat.min_le_right _ _) (HK.out f cc rfl).1
            have hbase : w.heap.size + 1 + 1 + 1 + 1 ≤ wr.heap.size := MapAt.lt hw.out.1.found
            have hfl : f.length ≤ 60000 := (HK.out f cc rfl).1
            obtain ⟨n, hn⟩ : ∃ n, n = (f.take i).length := ⟨_, rfl⟩
            have HN := Lib.hid hn
            rw [← hn] at RO h12
            clear hn
            rcases hop : hasOperand x.op with _ | _
            · go_wp2_with (first
                | (at_builtin; refine wpList_append_own_at _ rfl _ _ 50 rfl (w.heap.size + 1 + 1 + 1 + 1) 60 i0 _ 5 24 Tryd.underlying50 hi0 hz0 hz1 hz2 rfl (by decide) vi n _ rfl ((RO.out.alloc _).alloc _) ⟨wr.heap.size + 1, 0, none⟩ 1 1 [.int .u16 x.at_, .int .i64 x.op, .int .u16 x.operand, .int .u16 x.word, .int .u16 x.next] rfl rfl ?hnews ?hone (by simp only [maxLen]; omega) (by omega) (by simp; omega) ?_; (case hnews => exact news5 _ (alloc_at _ (by simp))); (case hone => intro u hu; simp at hu; rcases hu with rfl | rfl | rfl | rfl | rfl <;> rfl); intro v' w3 ho hgr _ hat; obtain ⟨g3, cap3, rfl⟩ := ownsRow_succ ho; have new3 := new_block hat; have t4 := KEEP.out w3 (.slice (some ⟨g3, 0, none⟩) (n + 1) cap3) hgr; have T4 := Lib.hid t4; have N3 := Lib.hid new3; obtain ⟨t1, t2, t3⟩ := hw.out.1.app HN.out hgr ho new3; obtain ⟨⟨x0, x1, x2⟩, y0, y1, y2⟩ := cells3 t1; obtain ⟨⟨p0, p1, p2, p3, p4⟩, _⟩ := cells5 t2; have T3 := Lib.hid t3; have T2 := Lib.hid t2; clear ho hgr t1 t2 t3 t4 new3 hat)
                | (go_at_call 56; refine (E.out.oper _ _ T3.out.below HXO.out.op.1 HXO.out.op.2).mono ?_; rintro e W5 ⟨rfl, hW⟩; have HW5 := Lib.hid hW; clear hW))
              have fin : Hid (TS w W5 cw f cc Ac nc W1.heap.size (.slice (some ⟨g3, 0, none⟩) (n + 1) cap3) (f.take (i + 1)) (insOf (f.take (i + 1))) ∧ RowU W5 (W1.heap.size + 1) (.slice (some ⟨g, 0, none⟩) f.length ni) (f.map FI.at_) ∧ ∀ k, (Value.slice (some ⟨g, 0, none⟩) f.length ni).ownBlock = some k → (Value.slice (some ⟨g3, 0, none⟩) (n + 1) cap3).ownBlock ≠ some k) := by
                rw [TK.out, insOf_snoc, if_neg (by rw [hop]; decide)]
                refine ⟨T3.out.bel HW5.out, T4.out.below HW5.out, fun k hk e => ?_⟩
                have e' : g3 = k := by simpa [Value.ownBlock] using e
                rcases N3.out with hn' | hn'
                · exact hw.out.2.2 k hk (by rw [← hn', e'])
                · have := (hw.out.2.1.lt k hk).1; omega
              go_roundw
              case rel => exact ⟨i + 1, by go_num, by omega, _, fin.out⟩
              case measure => first | (simp [intOf]; done) | (simp [intOf]; omega)
            · go_wp2_with (first
                | (at_builtin; refine wpList_append_own_at _ rfl _ _ 50 rfl (w.heap.size + 1 + 1 + 1 + 1) 60 i0 _ 5 24 Tryd.underlying50 hi0 hz0 hz1 hz2 rfl (by decide) vi n _ rfl ((RO.out.alloc _).alloc _) ⟨wr.heap.size + 1, 0, none⟩ 1 1 [.int .u16 x.at_, .int .i64 x.op, .int .u16 x.operand, .int .u16 x.word, .int .u16 x.next] rfl rfl ?hnews ?hone (by simp only [maxLen]; omega) (by omega) (by simp; omega) ?_; (case hnews => exact news5 _ (alloc_at _ (by simp))); (case hone => intro u hu; simp at hu; rcases hu with rfl | rfl | rfl | rfl | rfl <;> rfl); intro v' w3 ho hgr _ hat; obtain ⟨g3, cap3, rfl⟩ := ownsRow_succ ho; have new3 := new_block hat; have t4 := KEEP.out w3 (.slice (some ⟨g3, 0, none⟩) (n + 1) cap3) hgr; have T4 := Lib.hid t4; have N3 := Lib.hid new3; obtain ⟨t1, t2, t3⟩ := hw.out.1.app HN.out hgr ho new3; obtain ⟨⟨x0, x1, x2⟩, y0, y1, y2⟩ := cells3 t1; obtain ⟨⟨p0, p1, p2, p3, p4⟩, _⟩ := cells5 t2; have T3 := Lib.hid t3; have T2 := Lib.hid t2; clear ho hgr t1 t2 t3 t4 new3 hat)
                | (go_at_call 56; refine (E.out.oper _ _ T3.out.below HXO.out.op.1 HXO.out.op.2).mono ?_; rintro e W5 ⟨rfl, hW⟩; have T5 := Lib.hid (T3.out.bel hW); have R5 := Lib.hid (T4.out.below hW); clear hW)
                | (refine wpList_map_put rfl (.tmp 125) (.tmp 127) (.const (.bool true)) 80 rfl 23 4 Tryd.underlying80 Tryd.underlying23 W1.heap.size (setFn (insOf (f.take i))) rfl T5.out.inside _ (wrap16_range _) _ rfl rfl ?_; intro W6 m1 m2; have T6 := Lib.hid (T5.out.set_in m2 (T5.out.inside.put_ m1)); have R6 := Lib.hid (R5.out.move (fun k hk => m2.block k (R5.out.lt k hk).1 (by have := (R5.out.lt k hk).2; omega))); clear m1 m2))
              have fin : Hid (TS w W6 cw f cc Ac nc W1.heap.size (.slice (some ⟨g3, 0, none⟩) (n + 1) cap3) (f.take (i + 1)) (insOf (f.take (i + 1))) ∧ RowU W6 (W1.heap.size + 1) (.slice (some ⟨g, 0, none⟩) f.length ni) (f.map FI.at_) ∧ ∀ k, (Value.slice (some ⟨g, 0, none⟩) f.length ni).ownBlock = some k → (Value.slice (some ⟨g3, 0, none⟩) (n + 1) cap3).ownBlock ≠ some k) := by
                rw [TK.out, insOf_snoc, if_pos hop]
                refine ⟨T6.out, R6.out, fun k hk e => ?_⟩
                have e' : g3 = k := by simpa [Value.ownBlock] using e
                rcases N3.out with hn' | hn'
                · exact hw.out.2.2 k hk (by rw [← hn', e'])
                · have := (hw.out.2.1.lt k hk).1; omega
              go_roundw
              case rel => exact ⟨i + 1, by go_num, by omega, _, fin.out⟩
              case measure => first | (simp [intOf]; done) | (simp [intOf]; omega)
          · have hie : i = f.length := by omega
            have hT : TS w wr cw f cc Ac nc W1.heap.size vi f (insOf f) := by
              have := hw.out.1
              rw [hie, List.take_length] at this
              exact this
            obtain ⟨Av, cv, rfl⟩ := hT.rowi.slice
            obtain ⟨⟨x0, x1, x2⟩, y0, y1, y2⟩ := cells3 hT.out
            have HT4 := Lib.hid hT
            have di : decide ((i : Int) < (f.length : Int)) = false := by simp; omega
            clear hT
            go_wp2_with (fail)
            go_loopw [132] (fun p W => ∃ i4 : Nat, p = .int .i64 (i4 : Int) ∧ i4 ≤ f.length ∧ Hid (TS w W cw f cc Ac nc W1.heap.size (.slice Av f.length cv) f (insOf f) ∧ ∀ x ∈ f.take i4, x.at_ ∉ insOf f)) (fun p _ => f.length - (intOf p).toNat)
            case atStart => exact ⟨0, rfl, Nat.zero_le _, HT4.out, by simp⟩
            case round =>
              obtain ⟨i4, rfl, hi4, hw4⟩ := hrel
              by_cases hlt4 : i4 < f.length
              · obtain ⟨g4, rfl, c0, c1, c2, c3, c4⟩ := hw4.out.1.rowi.at_ hlt4
                have TK4 : Hid (f.take (i4 + 1) = f.take i4 ++ [f[i4]]) := (List.take_append_getElem hlt4).symm
                obtain ⟨x, hx⟩ : ∃ x, x = f[i4] := ⟨_, rfl⟩
                rw [← hx] at c0 c1 c2 c3 c4 TK4
                have HX4 := Lib.hid hx
                clear hx
                have di4 : decide ((i4 : Int) < (f.length : Int)) = true := by simp; omega
                have b40 : (0 : Int) ≤ (i4 : Int) := by omega
                have b41 : (i4 : Int) < (f.length : Int) := by omega
                have hfl4 : f.length ≤ 60000 := (HK.out f cc rfl).1
                have hin4 := MapAt.below hw4.out.1.inside ((Below.refl _ _).alloc (Nat.le_refl _) (.cells #[.int .u16 x.at_, .int .i64 x.op, .int .u16 x.operand, .int .u16 x.word, .int .u16 x.next] 60))
                by_cases hin : x.at_ ∈ insOf f
                · have hl4 := SetAt.in_ (T := insOf f) hin4 hin
                  have TA := Lib.hid (hw4.out.1.bel ((Below.refl wr.heap.size wr).alloc (Nat.le_refl _) (.cells #[.int .u16 x.at_, .int .i64 x.op, .int .u16 x.operand, .int .u16 x.word, .int .u16 x.next] 60)))
                  have HCL : Hid (clash f = some x.at_) := clash_at hi4 hlt4 HX4.out hw4.out.2 hin
                  have XA := Lib.hid (heap_alloc_at wr (.cells #[.int .u16 x.at_, .int .i64 x.op, .int .u16 x.operand, .int .u16 x.word, .int .u16 x.next] 60))
                  have hsz := MapAt.lt hw4.out.1.found
                  obtain ⟨⟨x0, x1, x2⟩, y0, y1, y2⟩ := cells3 TA.out.r6
                  obtain ⟨⟨x3, x4⟩, y3, y4⟩ := cells2 TA.out.r7
                  go_wp2_with (fail)
                  go_region
                  all_goals
                    go_wp2_with (fail)
                    refine tail_word_d TA.out.r6 TA.out.r7 TA.out.below ?_
                    intro V g6 g7 hB
                    obtain ⟨⟨m0, m1, m2⟩, _⟩ := cells3 g6
                    obtain ⟨⟨m3, m4⟩, _⟩ := cells2 g7
                    refine bodyPost_ret (v := .tuple #[.agg #[.int .u16 0, .slice none 0 0, .slice none 0 0], .agg #[.int .i64 160, .int .u16 x.at_]]) (by simp [results, Tryd.results33, go_sem, m0, m1, m2, m3, m4]) rfl ⟨hB, ?_⟩
                    have he4 : endOf cw (.ok (f, cc)) = .error (160, x.at_) := by simp [endOf, HCL.out]
                    rw [he4]
                · have hl4 := SetAt.out_ (T := insOf f) hin4 hin
                  have fin4 : Hid (∀ W', Below wr.heap.size wr W' → TS w W' cw f cc Ac nc W1.heap.size (.slice (some ⟨g4, 0, none⟩) f.length cv) f (insOf f) ∧ ∀ x ∈ f.take (i4 + 1), x.at_ ∉ insOf f) := fun W' hb => by
                    refine ⟨hw4.out.1.bel hb, fun y hy => ?_⟩
                    rw [TK4.out] at hy
                    rcases List.mem_append.1 hy with hy | hy
                    · exact hw4.out.2 y hy
                    · rw [List.mem_singleton.1 hy]; exact hin
                  go_wp2_with (fail)
                  go_roundw
                  case rel => exact ⟨i4 + 1, by go_num, by omega, fin4.out _ ((Below.refl _ _).alloc (Nat.le_refl _) _)⟩
                  case measure => first | (simp [intOf]; done) | (simp [intOf]; omega)
              · have hie4 : i4 = f.length := by omega
                have hcl : clash f = none := clash_none (by have := hw4.out.2; rw [hie4, List.take_length] at this; exact this)
                obtain ⟨⟨u0, u1, u2⟩, q0, q1, q2⟩ := cells3 hw4.out.1.r6
                obtain ⟨⟨u3, u4⟩, q3, q4⟩ := cells2 hw4.out.1.r7
                obtain ⟨⟨t0, t1, t2⟩, _⟩ := cells3 hw4.out.1.out
                have di4 : decide ((i4 : Int) < (f.length : Int)) = false := by simp; omega
                go_wp2_with (fail)
                refine tail_word hw4.out.1.r6 hw4.out.1.r7 hw4.out.1.below ?_
                intro V g6 g7 hU hB
                obtain ⟨⟨m0, m1, m2⟩, _⟩ := cells3 g6
                obtain ⟨⟨m3, m4⟩, _⟩ := cells2 g7
                refine bodyPost_ret (v := .tuple #[.agg #[.int .u16 cw, .slice Av f.length cv, .slice Ac cc.length nc], .agg #[.int .i64 0, .int .u16 0]]) (by simp [results, Tryd.results33, go_sem, m0, m1, m2, m3, m4]) rfl ⟨hB, ?_⟩
                have he4 : endOf cw (.ok (f, cc)) = .ok ⟨cw, f, cc⟩ := by simp [endOf, hcl]
                rw [he4]
                refine ⟨_, _, rfl, ?_, (hw4.out.1.rowc.move (fun k hk => hU.block k (hw4.out.1.rowc.lt k hk).1 (by have := (hw4.out.1.rowc.lt k hk).2; omega))).lower (by omega), fun k hk => (hw4.out.1.apart k hk).1⟩
                obtain ⟨h1, h2⟩ := hw4.out.1.rowi
                refine ⟨h1, ?_⟩
                rcases h2 with h2 | ⟨g2, cap2, cur, e, hg2, hh2, r2⟩
                · exact .inl h2
                · exact .inr ⟨g2, cap2, cur, e, by omega, hU.keep hh2 (by omega), r2⟩
      | cons a o' =>
        have hpos : (0 : Int) < (es.size : Int) := by
          rcases Nat.eq_zero_or_pos es.size with e | e
          · have := hs2.1 e a; simp [setFn] at this
          · omega
        have least := Lib.hid (least_any wr _ a o' hh.out.st.opn (List.pairwise_cons.1 hh.out.sorted).1)
        have hlen := MapAt.len (P := Tryd.prog) hb13 (t := 80) Tryd.underlying80 3
        clear hs1 hs2
        by_cases ha : a ∈ T
        · have hre : r = .error (160, a) := by
            have := hh.out.run
            unfold wl at this
            rw [if_pos ha] at this
            exact (Option.some.inj this).symm
          subst hre
          go_wp2_with (first
            | (go_at_call 32; refine least.out.mono ?_; rintro e W1 ⟨rfl, l1, l2⟩; have s1 := hh.out.st.set_opn l2 l1; have hl := SetAt.in_ (MapAt.below HT.out s1.below) ha; obtain ⟨⟨x0, x1, x2⟩, y0, y1, y2⟩ := cells3 s1.r6; obtain ⟨⟨x3, x4⟩, y3, y4⟩ := cells2 s1.r7; have S1 := Lib.hid s1; clear l1 l2 s1))
          refine tail_word S1.out.r6 S1.out.r7 S1.out.below ?_
          intro V g6 g7 _ hB
          obtain ⟨⟨x0, x1, x2⟩, _⟩ := cells3 g6
          obtain ⟨⟨x3, x4⟩, _⟩ := cells2 g7
          refine bodyPost_ret (v := .tuple #[.agg #[.int .u16 0, .slice none 0 0, .slice none 0 0], .agg #[.int .i64 160, .int .u16 a]]) (by simp [results, Tryd.results33, go_sem, x0, x1, x2, x3, x4]) rfl ⟨hB, rfl⟩
        · have hat : 0 ≤ a ∧ a < 65536 := SetAt.dom hh.out.st.opn a List.mem_cons_self
          obtain ⟨a0, a1⟩ := hat
          by_cases he : (lookAt code a).2 = 0
          · have hok := lookAt_ok EB.out ⟨a0, a1⟩ he
            obtain ⟨X, hX⟩ : ∃ X, X = (lookAt code a).1 := ⟨_, rfl⟩
            have HX := Lib.hid hX
            rw [← hX] at hok
            have HOK := Lib.hid hok
            have EI2 : Hid (∀ W, Below w.heap.size w W → Calls Tryd.prog 52 #[.slice A code.length c, .int .u16 a] W fun e w' => e = .returned (.tuple #[.agg #[.int .u16 a, .int .i64 X.op, .int .u16 X.operand, .int .u16 X.word, .int .u16 X.next], .int .i64 0]) ∧ Below W.heap.size W w') := fun W hW => by
              have := EI.out W a hW a0 a1
              rw [he, ← HX.out] at this
              unfold FI.val at this
              rw [HOK.out.1] at this
              exact this
            have NEXT : Hid (wl code T k1 ((leadsOf X).foldl (push (insI X f)) o') (insI X f) (if X.op = 1 then ins X.word cc else cc) = some r) := by
              have := hh.out.run
              unfold wl at this
              rw [if_neg ha, if_neg (by simp [he]), ← HX.out] at this
              exact this
            clear hX hok hb13
            have xv : X.val = .agg #[.int .u16 a, .int .i64 X.op, .int .u16 X.operand, .int .u16 X.word, .int .u16 X.next] := by
              have := HOK.out.1
              unfold FI.val
              rw [this]
            have XV := Lib.hid xv
            have LD : Hid (∀ W, Calls Tryd.prog 53 #[.agg #[.int .u16 a, .int .i64 X.op, .int .u16 X.operand, .int .u16 X.word, .int .u16 X.next]] W fun e w' => ∃ Av cv, e = .returned (.slice Av (leadsOf X).length cv) ∧ RowU w' W.heap.size (.slice Av (leadsOf X).length cv) (leadsOf X) ∧ Below W.heap.size W w') := fun W => by
              have := leads_any W X
              rw [xv] at this
              refine this.mono ?_
              rintro e w' ⟨v, rfl, l1, l2⟩
              obtain ⟨Av, cv, rfl⟩ := l1.slice
              exact ⟨Av, cv, rfl, l1, l2⟩
            clear xv
            by_cases hop : X.op = 1
            · have hop1 : (X.op == 1) = true := by simp [hop]
              have HOP := Lib.hid hop
              clear hop
              go_wp2_with (first
                | (go_at_call 32; refine least.out.mono ?_; rintro e W1 ⟨rfl, l1, l2⟩; have s1 := hh.out.st.set_opn l2 l1; have hl := SetAt.out_ (MapAt.below HT.out s1.below) ha; have S1 := Lib.hid s1; clear l1 l2 s1)
                | (go_at_call 52; refine (EI2.out W1 S1.out.below).mono ?_; rintro e W2 ⟨rfl, i1⟩; have S2 := Lib.hid (S1.out.bel i1); clear i1 hl)
                | (refine wpList_map_put rfl (.tmp 73) (.tmp 74) (.tmp 75) 109 rfl 23 60 Tryd.underlying109 Tryd.underlying23 (w.heap.size + 1 + 1 + 1) (fFn f) rfl (MapAt.below S2.out.found ((Below.refl _ _).alloc (Nat.le_refl _) _)) _ ⟨a0, a1⟩ _ rfl rfl ?_; intro W3 m1 m2; have s3 := S2.out.find XV.out HOK.out.1 _ m1 m2; have S4 := Lib.hid s3.1; have HXB := Lib.hid s3.2; obtain ⟨⟨x0, x1, x2, x3, x4⟩, _⟩ := cells5 s3.2; clear m1 m2 s3)
                | (refine wpList_map_put rfl (.tmp 79) (.tmp 81) (.const (.bool true)) 80 rfl 23 4 Tryd.underlying80 Tryd.underlying23 (w.heap.size + 1 + 1 + 1 + 1) (setFn cc) rfl S4.out.calls _ HOK.out.2.word _ rfl rfl ?_; intro W4 m1 m2; clear x0 x1 x2 x3 x4; have S5 := Lib.hid (S4.out.set_calls m2 (S4.out.calls.put_ m1)); obtain ⟨⟨x0, x1, x2, x3, x4⟩, _⟩ := cells5 (m2.keep HXB.out (by have := S2.out.size; omega)); clear m1 m2)
                | (go_at_call 53; refine (LD.out _).mono ?_; rintro e W5 ⟨Av, cv, rfl, l1, l2⟩; have S6 := Lib.hid (S5.out.bel l2); have HV := Lib.hid l1; clear l1 l2))
              go_loopw [85] (fun p W => ∃ i : Nat, p = .int .i64 (i : Int) ∧ i ≤ (leadsOf X).length ∧ Hid (WS w W cw (((leadsOf X).take i).foldl (push (insI X f)) o') (insI X f) (ins X.word cc) ∧ RowU W W4.heap.size (.slice Av (leadsOf X).length cv) (leadsOf X))) (fun p _ => (leadsOf X).length - (intOf p).toNat)
              case atStart => exact ⟨0, rfl, Nat.zero_le _, S6.out, HV.out⟩
              case round =>
                obtain ⟨i, rfl, hi, hw⟩ := hrel
                by_cases hlt : i < (leadsOf X).length
                · obtain ⟨g, rfl, hcell⟩ := hw.out.2.at_ hlt
                  have hd := HOK.out.2.leads (List.getElem_mem hlt)
                  have tk : Hid ((leadsOf X).take (i + 1) = (leadsOf X).take i ++ [(leadsOf X)[i]]) := by
                    have := List.take_append_getElem hlt
                    exact this.symm
                  obtain ⟨d, hde⟩ : ∃ d, d = (leadsOf X)[i] := ⟨_, rfl⟩
                  rw [← hde] at hcell hd tk
                  clear hde
                  obtain ⟨n, hn⟩ : ∃ n, n = (leadsOf X).length := ⟨_, rfl⟩
                  have HN := Lib.hid hn
                  rw [← hn] at hlt hi ⊢
                  clear hn
                  have di : decide ((i : Int) < (n : Int)) = true := by simp; omega
                  have bi0 : (0 : Int) ≤ (i : Int) := by omega
                  have bi : (i : Int) < (n : Int) := by omega
                  have hn2 : n ≤ 2 := by rw [HN.out]; exact leads_len X
                  rcases hf : fFn (insI X f) d with _ | v
                  · have hl : (Instr.lookup 109 (.map (some (w.heap.size + 1 + 1 + 1))) (.int .u16 d) true).run Tryd.prog wr = .ok (.tuple #[.agg #[.int .u16 0, .int .i64 0, .int .u16 0, .int .u16 0, .int .u16 0], .bool false]) wr :=
                      MapAt.look_none (P := Tryd.prog) hw.out.1.found Tryd.underlying109 Tryd.underlying23 (zero_instr wr) hf true
                    go_wp2_with (first
                      | (refine wpList_map_put rfl (.tmp 97) (.tmp 98) (.const (.bool true)) 80 rfl 23 4 Tryd.underlying80 Tryd.underlying23 (w.heap.size + 1 + 1 + 1 + 1 + 1) (setFn _) rfl (MapAt.below hw.out.1.opn ((Below.refl _ _).alloc (Nat.le_refl _) _)) _ hd _ rfl rfl ?_; intro W6 m1 m2; have S7 := Lib.hid (WS.set_opn (hw.out.1.bel ((Below.refl _ _).alloc (Nat.le_refl _) _)) m2 (SetAt.put_ hw.out.1.opn m1)); have U7 := Lib.hid m2; clear m1 m2))
                    have fin : Hid (WS w W6 cw (((leadsOf X).take (i + 1)).foldl (push (insI X f)) o') (insI X f) (ins X.word cc) ∧ RowU W6 W4.heap.size (.slice (some ⟨g, 0, none⟩) n cv) (leadsOf X)) := by
                      have row := hw.out.2.below ((Below.refl wr.heap.size wr).alloc (Nat.le_refl _) (.cells #[.int .u16 0, .int .i64 0, .int .u16 0, .int .u16 0, .int .u16 0] 60))
                      constructor
                      · rw [tk.out, List.foldl_append]
                        have e : push (insI X f) (((leadsOf X).take i).foldl (push (insI X f)) o') d = ins d (((leadsOf X).take i).foldl (push (insI X f)) o') := by unfold push; rw [hf]; rfl
                        simp only [List.foldl_cons, List.foldl_nil]
                        rw [e]
                        exact S7.out
                      · rw [HN.out]
                        refine row.move (fun k hk => U7.out.block k (row.lt k hk).1 ?_)
                        have h1 := (row.lt k hk).2
                        have h2 := S5.out.size
                        omega
                    go_roundw
                    case rel => exact ⟨i + 1, by go_num, by omega, fin.out⟩
                    case measure => first | (simp [intOf]; done) | (simp [intOf]; omega)
                  · obtain ⟨y, rfl⟩ := fFn_some hf
                    have hl : (Instr.lookup 109 (.map (some (w.heap.size + 1 + 1 + 1))) (.int .u16 d) true).run Tryd.prog wr = .ok (.tuple #[.agg #[.int .u16 y.at_, .int .i64 y.op, .int .u16 y.operand, .int .u16 y.word, .int .u16 y.next], .bool true]) wr :=
                      MapAt.look_some (P := Tryd.prog) hw.out.1.found Tryd.underlying109 Tryd.underlying23 hf true
                    have fin : Hid (∀ W6, Below wr.heap.size wr W6 → WS w W6 cw (((leadsOf X).take (i + 1)).foldl (push (insI X f)) o') (insI X f) (ins X.word cc) ∧ RowU W6 W4.heap.size (.slice (some ⟨g, 0, none⟩) n cv) (leadsOf X)) := fun W6 hb => by
                      constructor
                      · rw [tk.out, List.foldl_append]
                        have e : push (insI X f) (((leadsOf X).take i).foldl (push (insI X f)) o') d = ((leadsOf X).take i).foldl (push (insI X f)) o' := by unfold push; rw [hf]; rfl
                        simp only [List.foldl_cons, List.foldl_nil]
                        rw [e]
                        exact hw.out.1.bel hb
                      · rw [HN.out]
                        exact hw.out.2.below hb
                    clear hf
                    go_wp2_with (fail)
                    go_roundw
                    case rel => exact ⟨i + 1, by go_num, by have := HN.out; omega, fin.out _ ((Below.refl _ _).alloc (Nat.le_refl _) _)⟩
                    case measure => have := HN.out; first | (simp [intOf]; done) | (simp [intOf]; omega)
                · have hie : i = (leadsOf X).length := by omega
                  have fin : Hid (WS w wr cw ((leadsOf X).foldl (push (insI X f)) o') (insI X f) (ins X.word cc)) := by
                    have := hw.out.1
                    rw [hie, List.take_length] at this
                    exact this
                  have di : decide ((i : Int) < ((leadsOf X).length : Int)) = false := by simp; omega
                  have WRN : Hid (WR w wr code T cw k1 r ((leadsOf X).foldl (push (insI X f)) o') (insI X f) (ins X.word cc)) := by
                    refine ⟨?_, fin.out, ?_, ?_, insI_sorted _ _ hh.out.fsorted, ins_sorted _ _ hh.out.csorted⟩
                    · have := NEXT.out
                      rw [if_pos HOP.out] at this
                      exact this
                    · exact push_sorted _ _ _ (List.pairwise_cons.1 hh.out.sorted).2
                    · intro x hx
                      rcases mem_insI hx with rfl | hx
                      · exact HOK.out.2
                      · exact hh.out.ok x hx
                  go_wp2_with (fail)
                  go_roundg k1
                  case rel => exact ⟨_, _, _, WRN.out⟩
                  case measure => omega
            · have hop1 : (X.op == 1) = false := by simp [hop]
              have HOP := Lib.hid hop
              clear hop
              go_wp2_with (first
                | (go_at_call 32; refine least.out.mono ?_; rintro e W1 ⟨rfl, l1, l2⟩; have s1 := hh.out.st.set_opn l2 l1; have hl := SetAt.out_ (MapAt.below HT.out s1.below) ha; have S1 := Lib.hid s1; clear l1 l2 s1)
                | (go_at_call 52; refine (EI2.out W1 S1.out.below).mono ?_; rintro e W2 ⟨rfl, i1⟩; have S2 := Lib.hid (S1.out.bel i1); clear i1 hl)
                | (refine wpList_map_put rfl (.tmp 73) (.tmp 74) (.tmp 75) 109 rfl 23 60 Tryd.underlying109 Tryd.underlying23 (w.heap.size + 1 + 1 + 1) (fFn f) rfl (MapAt.below S2.out.found ((Below.refl _ _).alloc (Nat.le_refl _) _)) _ ⟨a0, a1⟩ _ rfl rfl ?_; intro W3 m1 m2; have s3 := S2.out.find XV.out HOK.out.1 _ m1 m2; have S4 := Lib.hid s3.1; have HXB := Lib.hid s3.2; obtain ⟨⟨x0, x1, x2, x3, x4⟩, _⟩ := cells5 s3.2; clear m1 m2 s3)
                | (go_at_call 53; refine (LD.out _).mono ?_; rintro e W5 ⟨Av, cv, rfl, l1, l2⟩; have S6 := Lib.hid (S4.out.bel l2); have HV := Lib.hid l1; clear l1 l2))
              go_loopw [85] (fun p W => ∃ i : Nat, p = .int .i64 (i : Int) ∧ i ≤ (leadsOf X).length ∧ Hid (WS w W cw (((leadsOf X).take i).foldl (push (insI X f)) o') (insI X f) (cc) ∧ RowU W W3.heap.size (.slice Av (leadsOf X).length cv) (leadsOf X))) (fun p _ => (leadsOf X).length - (intOf p).toNat)
              case atStart => exact ⟨0, rfl, Nat.zero_le _, S6.out, HV.out⟩
              case round =>
                obtain ⟨i, rfl, hi, hw⟩ := hrel
                by_cases hlt : i < (leadsOf X).length
                · obtain ⟨g, rfl, hcell⟩ := hw.out.2.at_ hlt
                  have hd := HOK.out.2.leads (List.getElem_mem hlt)
                  have tk : Hid ((leadsOf X).take (i + 1) = (leadsOf X).take i ++ [(leadsOf X)[i]]) := by
                    have := List.take_append_getElem hlt
                    exact this.symm
                  obtain ⟨d, hde⟩ : ∃ d, d = (leadsOf X)[i] := ⟨_, rfl⟩
                  rw [← hde] at hcell hd tk
                  clear hde
                  obtain ⟨n, hn⟩ : ∃ n, n = (leadsOf X).length := ⟨_, rfl⟩
                  have HN := Lib.hid hn
                  rw [← hn] at hlt hi ⊢
                  clear hn
                  have di : decide ((i : Int) < (n : Int)) = true := by simp; omega
                  have bi0 : (0 : Int) ≤ (i : Int) := by omega
                  have bi : (i : Int) < (n : Int) := by omega
                  have hn2 : n ≤ 2 := by rw [HN.out]; exact leads_len X
                  rcases hf : fFn (insI X f) d with _ | v
                  · have hl : (Instr.lookup 109 (.map (some (w.heap.size + 1 + 1 + 1))) (.int .u16 d) true).run Tryd.prog wr = .ok (.tuple #[.agg #[.int .u16 0, .int .i64 0, .int .u16 0, .int .u16 0, .int .u16 0], .bool false]) wr :=
                      MapAt.look_none (P := Tryd.prog) hw.out.1.found Tryd.underlying109 Tryd.underlying23 (zero_instr wr) hf true
                    go_wp2_with (first
                      | (refine wpList_map_put rfl (.tmp 97) (.tmp 98) (.const (.bool true)) 80 rfl 23 4 Tryd.underlying80 Tryd.underlying23 (w.heap.size + 1 + 1 + 1 + 1 + 1) (setFn _) rfl (MapAt.below hw.out.1.opn ((Below.refl _ _).alloc (Nat.le_refl _) _)) _ hd _ rfl rfl ?_; intro W6 m1 m2; have S7 := Lib.hid (WS.set_opn (hw.out.1.bel ((Below.refl _ _).alloc (Nat.le_refl _) _)) m2 (SetAt.put_ hw.out.1.opn m1)); have U7 := Lib.hid m2; clear m1 m2))
                    have fin : Hid (WS w W6 cw (((leadsOf X).take (i + 1)).foldl (push (insI X f)) o') (insI X f) (cc) ∧ RowU W6 W3.heap.size (.slice (some ⟨g, 0, none⟩) n cv) (leadsOf X)) := by
                      have row := hw.out.2.below ((Below.refl wr.heap.size wr).alloc (Nat.le_refl _) (.cells #[.int .u16 0, .int .i64 0, .int .u16 0, .int .u16 0, .int .u16 0] 60))
                      constructor
                      · rw [tk.out, List.foldl_append]
                        have e : push (insI X f) (((leadsOf X).take i).foldl (push (insI X f)) o') d = ins d (((leadsOf X).take i).foldl (push (insI X f)) o') := by unfold push; rw [hf]; rfl
                        simp only [List.foldl_cons, List.foldl_nil]
                        rw [e]
                        exact S7.out
                      · rw [HN.out]
                        refine row.move (fun k hk => U7.out.block k (row.lt k hk).1 ?_)
                        have h1 := (row.lt k hk).2
                        have h2 := S4.out.size
                        omega
                    go_roundw
                    case rel => exact ⟨i + 1, by go_num, by omega, fin.out⟩
                    case measure => first | (simp [intOf]; done) | (simp [intOf]; omega)
                  · obtain ⟨y, rfl⟩ := fFn_some hf
                    have hl : (Instr.lookup 109 (.map (some (w.heap.size + 1 + 1 + 1))) (.int .u16 d) true).run Tryd.prog wr = .ok (.tuple #[.agg #[.int .u16 y.at_, .int .i64 y.op, .int .u16 y.operand, .int .u16 y.word, .int .u16 y.next], .bool true]) wr :=
                      MapAt.look_some (P := Tryd.prog) hw.out.1.found Tryd.underlying109 Tryd.underlying23 hf true
                    have fin : Hid (∀ W6, Below wr.heap.size wr W6 → WS w W6 cw (((leadsOf X).take (i + 1)).foldl (push (insI X f)) o') (insI X f) (cc) ∧ RowU W6 W3.heap.size (.slice (some ⟨g, 0, none⟩) n cv) (leadsOf X)) := fun W6 hb => by
                      constructor
                      · rw [tk.out, List.foldl_append]
                        have e : push (insI X f) (((leadsOf X).take i).foldl (push (insI X f)) o') d = ((leadsOf X).take i).foldl (push (insI X f)) o' := by unfold push; rw [hf]; rfl
                        simp only [List.foldl_cons, List.foldl_nil]
                        rw [e]
                        exact hw.out.1.bel hb
                      · rw [HN.out]
                        exact hw.out.2.below hb
                    clear hf
                    go_wp2_with (fail)
                    go_roundw
                    case rel => exact ⟨i + 1, by go_num, by have := HN.out; omega, fin.out _ ((Below.refl _ _).alloc (Nat.le_refl _) _)⟩
                    case measure => have := HN.out; first | (simp [intOf]; done) | (simp [intOf]; omega)
                · have hie : i = (leadsOf X).length := by omega
                  have fin : Hid (WS w wr cw ((leadsOf X).foldl (push (insI X f)) o') (insI X f) (cc)) := by
                    have := hw.out.1
                    rw [hie, List.take_length] at this
                    exact this
                  have di : decide ((i : Int) < ((leadsOf X).length : Int)) = false := by simp; omega
                  have WRN : Hid (WR w wr code T cw k1 r ((leadsOf X).foldl (push (insI X f)) o') (insI X f) (cc)) := by
                    refine ⟨?_, fin.out, ?_, ?_, insI_sorted _ _ hh.out.fsorted, hh.out.csorted⟩
                    · have := NEXT.out
                      rw [if_neg HOP.out] at this
                      exact this
                    · exact push_sorted _ _ _ (List.pairwise_cons.1 hh.out.sorted).2
                    · intro x hx
                      rcases mem_insI hx with rfl | hx
                      · exact HOK.out.2
                      · exact hh.out.ok x hx
                  go_wp2_with (fail)
                  go_roundg k1
                  case rel => exact ⟨_, _, _, WRN.out⟩
                  case measure => omega
          · have hre : r = .error ((lookAt code a).2, a) := by
              have := hh.out.run
              unfold wl at this
              rw [if_neg ha, if_pos he] at this
              exact (Option.some.inj this).symm
            subst hre
            obtain ⟨X, hX⟩ : ∃ X, X = (lookAt code a).1 := ⟨_, rfl⟩
            obtain ⟨z, hz⟩ : ∃ z, z = (lookAt code a).2 := ⟨_, rfl⟩
            have EI2 : Hid (∀ W, Below w.heap.size w W → Calls Tryd.prog 52 #[.slice A code.length c, .int .u16 a] W fun e w' => e = .returned (.tuple #[.agg #[.int .u16 X.at_, .int .i64 X.op, .int .u16 X.operand, .int .u16 X.word, .int .u16 X.next], .int .i64 z]) ∧ Below W.heap.size W w') := fun W hW => by
              have := EI.out W a hW a0 a1
              rw [← hX, ← hz] at this
              exact this
            rw [← hz] at he
            have HZ := Lib.hid hz
            have hzb : (z == 0) = false := by simp [he]
            clear hX hz hb13 he
            go_wp2_with (first
              | (go_at_call 32; refine least.out.mono ?_; rintro e W1 ⟨rfl, l1, l2⟩; have s1 := hh.out.st.set_opn l2 l1; have hl := SetAt.out_ (MapAt.below HT.out s1.below) ha; have S1 := Lib.hid s1; clear l1 l2 s1)
              | (go_at_call 52; refine (EI2.out W1 S1.out.below).mono ?_; rintro e W2 ⟨rfl, i1⟩; have s2 := (S1.out.bel i1).bel ((Below.refl _ _).alloc (Nat.le_refl _) (.cells #[.int .u16 X.at_, .int .i64 X.op, .int .u16 X.operand, .int .u16 X.word, .int .u16 X.next] 60)); obtain ⟨⟨x0, x1, x2⟩, y0, y1, y2⟩ := cells3 s2.r6; obtain ⟨⟨x3, x4⟩, y3, y4⟩ := cells2 s2.r7; have S2 := Lib.hid s2; clear i1 hl s2))
            refine tail_word S2.out.r6 S2.out.r7 S2.out.below ?_
            intro V g6 g7 _ hB
            obtain ⟨⟨x0, x1, x2⟩, _⟩ := cells3 g6
            obtain ⟨⟨x3, x4⟩, _⟩ := cells2 g7
            refine bodyPost_ret (v := .tuple #[.agg #[.int .u16 0, .slice none 0 0, .slice none 0 0], .agg #[.int .i64 z, .int .u16 a]]) (by simp [results, Tryd.results33, go_sem, x0, x1, x2, x3, x4]) rfl ⟨hB, ?_⟩
            show _ = Ending.returned (.tuple #[_, .agg #[.int .i64 (lookAt code a).2, _]])
            rw [← HZ.out]
end Go.Proofs.YtabeljpnmmfpgaaDoor
