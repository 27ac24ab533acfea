/-
  flow's word: what its walk is told by; the way where the code field is no enter.
-/
import Derived.Deep.LoopGhost
import Derived.Test.YtabeljpnmmfpgaaDoorFlSpec
import Derived.Test.YtabeljpnmmfpgaaDoorFlLeast
import Derived.Test.YtabeljpnmmfpgaaDoorFlSorted
namespace Go.Proofs.YtabeljpnmmfpgaaDoor
open Go.RowKit Go.MapKept Go.Maps Go.Sort
set_option linter.unusedVariables false
set_option linter.unusedSimpArgs false

/-- The world while a word is gone along: the two results and the word as they were laid, the three maps. -/
structure WS (w W : World) (cw : Int) (o : List Int) (f : List FI) (c : List Int) : Prop where
  below : Below w.heap.size w W
  r6 : W.heap[w.heap.size]? = some (.cells #[.int .u16 0, .slice none 0 0, .slice none 0 0] 53 (0, 0))
  r7 : W.heap[w.heap.size + 1]? = some (.cells #[.int .i64 0, .int .u16 0] 33 (0, 0))
  out : W.heap[w.heap.size + 1 + 1]? = some (.cells #[.int .u16 cw, .slice none 0 0, .slice none 0 0] 53 (0, 0))
  found : MapAt W (w.heap.size + 1 + 1 + 1) (fFn f)
  calls : SetAt W (w.heap.size + 1 + 1 + 1 + 1) c
  opn : SetAt W (w.heap.size + 1 + 1 + 1 + 1 + 1) o

theorem WS.size {w W : World} {cw : Int} {o : List Int} {f : List FI} {c : List Int} (h : WS w W cw o f c) : w.heap.size + 1 + 1 + 1 + 1 + 1 < W.heap.size := MapAt.lt h.opn
theorem WS.bel {w W W' : World} {cw : Int} {o : List Int} {f : List FI} {c : List Int} (h : WS w W cw o f c) (hb : Below W.heap.size W W') : WS w W' cw o f c := by
  have hs := h.size
  have k : ∀ i, i ≤ w.heap.size + 1 + 1 + 1 + 1 + 1 → W'.heap[i]? = W.heap[i]? := fun i hi => hb.block i (by omega)
  exact ⟨b_then h.below hb, (k _ (by omega)).trans h.r6, (k _ (by omega)).trans h.r7, (k _ (by omega)).trans h.out, MapAt.move h.found (k _ (by omega)), MapAt.move h.calls (k _ (by omega)), MapAt.move h.opn (k _ (by omega))⟩
theorem WS.set_opn {w W W' : World} {cw : Int} {o o' : List Int} {f : List FI} {c : List Int} (h : WS w W cw o f c) (hu : Upd W W' (fun i => i = w.heap.size + 1 + 1 + 1 + 1 + 1)) (ho : SetAt W' (w.heap.size + 1 + 1 + 1 + 1 + 1) o') : WS w W' cw o' f c := by
  have hs := h.size
  have k : ∀ i, i < w.heap.size + 1 + 1 + 1 + 1 + 1 → W'.heap[i]? = W.heap[i]? := fun i hi => hu.block i (by omega) (by omega)
  exact ⟨h.below.trans (hu.below (by omega) (fun i hi => by omega)), (k _ (by omega)).trans h.r6, (k _ (by omega)).trans h.r7, (k _ (by omega)).trans h.out, MapAt.move h.found (k _ (by omega)), MapAt.move h.calls (k _ (by omega)), ho⟩
theorem WS.set_found {w W W' : World} {cw : Int} {o : List Int} {f f' : List FI} {c : List Int} (h : WS w W cw o f c) (hu : Upd W W' (fun i => i = w.heap.size + 1 + 1 + 1)) (ho : MapAt W' (w.heap.size + 1 + 1 + 1) (fFn f')) : WS w W' cw o f' c := by
  have hs := h.size
  have k : ∀ i, i < w.heap.size + 1 + 1 + 1 + 1 + 1 + 1 → i ≠ w.heap.size + 1 + 1 + 1 → W'.heap[i]? = W.heap[i]? := fun i hi hn => hu.block i (by omega) hn
  exact ⟨h.below.trans (hu.below (by omega) (fun i hi => by omega)), (k _ (by omega) (by omega)).trans h.r6, (k _ (by omega) (by omega)).trans h.r7, (k _ (by omega) (by omega)).trans h.out, ho, MapAt.move h.calls (k _ (by omega) (by omega)), MapAt.move h.opn (k _ (by omega) (by omega))⟩
theorem WS.set_calls {w W W' : World} {cw : Int} {o : List Int} {f : List FI} {c c' : List Int} (h : WS w W cw o f c) (hu : Upd W W' (fun i => i = w.heap.size + 1 + 1 + 1 + 1)) (ho : SetAt W' (w.heap.size + 1 + 1 + 1 + 1) c') : WS w W' cw o f c' := by
  have hs := h.size
  have k : ∀ i, i < w.heap.size + 1 + 1 + 1 + 1 + 1 + 1 → i ≠ w.heap.size + 1 + 1 + 1 + 1 → W'.heap[i]? = W.heap[i]? := fun i hi hn => hu.block i (by omega) hn
  exact ⟨h.below.trans (hu.below (by omega) (fun i hi => by omega)), (k _ (by omega) (by omega)).trans h.r6, (k _ (by omega) (by omega)).trans h.r7, (k _ (by omega) (by omega)).trans h.out, MapAt.move h.found (k _ (by omega) (by omega)), ho, MapAt.move h.opn (k _ (by omega) (by omega))⟩

/-- A row of instructions of the call's own. -/
def RowI (w : World) (base : Nat) (v : Value) (l : List FI) : Prop := w.ownsRow base 60 5 v l.length (l.flatMap fun x => [.int .u16 x.at_, .int .i64 x.op, .int .u16 x.operand, .int .u16 x.word, .int .u16 x.next])
theorem new_block {W : World} {v : Value} {g n c : Nat} {o1 o2 : Obj} (h : (Value.slice (some ⟨g, 0, none⟩) n c).ownBlock = v.ownBlock ∨ (Value.slice (some ⟨g, 0, none⟩) n c).ownBlock = some (World.alloc (World.alloc W o1) o2).heap.size) : some g = v.ownBlock ∨ W.heap.size ≤ g := by
  rcases h with h | h
  · exact .inl h
  · right
    have e : g = (World.alloc (World.alloc W o1) o2).heap.size := Option.some.inj h
    rw [e]; simp; omega
theorem news5 (W : World) {g : Nat} {v0 v1 v2 v3 v4 : Value} {t : TypeId} (h : W.heap[g]? = some (.cells #[v0, v1, v2, v3, v4] t (0, 0))) : ∀ (j : Nat) (u : Value), [v0, v1, v2, v3, v4][j]? = some u → W.cell? ((⟨g, 0, none⟩ : Addr).add j) = some u := by
  intro j u hu
  have e : (⟨g, 0, none⟩ : Addr).add j = ⟨g, j, none⟩ := by unfold Addr.add; split <;> simp_all
  rw [e, cell_of h j]
  simpa using hu
theorem infoInstr : (Tryd.prog.info? 60).map (fun i => (i.zero, i.size, i.bytes)) = some (some (.agg #[(.int .u16 0), (.int .i64 0), (.int .u16 0), (.int .u16 0), (.int .u16 0)]), 5, 24) := by kernel_rfl
/-- What lies in an operand of these instructions. -/
def insOf (l : List FI) : List Int := l.foldl (fun S x => if hasOperand x.op = true then ins (IntKind.u16.wrap (x.at_ + 2)) S else S) []
theorem insOf_snoc (l : List FI) (x : FI) : insOf (l ++ [x]) = if hasOperand x.op = true then ins (IntKind.u16.wrap (x.at_ + 2)) (insOf l) else insOf l := by unfold insOf; rw [List.foldl_append]; rfl
theorem mem_insOf_go (n : Int) : ∀ (l : List FI) (S : List Int), n ∈ l.foldl (fun S x => if hasOperand x.op = true then ins (IntKind.u16.wrap (x.at_ + 2)) S else S) S ↔ n ∈ S ∨ ∃ y ∈ l, hasOperand y.op = true ∧ n = IntKind.u16.wrap (y.at_ + 2)
  | [], S => by simp
  | x :: l, S => by
    rw [List.foldl_cons, mem_insOf_go n l]
    by_cases h : hasOperand x.op = true
    · rw [if_pos h, mem_ins]; simp [h, or_assoc, or_comm, or_left_comm]
    · rw [if_neg h]; simp [h]
theorem mem_insOf (n : Int) (l : List FI) : n ∈ insOf l ↔ ∃ y ∈ l, hasOperand y.op = true ∧ n = IntKind.u16.wrap (y.at_ + 2) := by
  unfold insOf
  rw [mem_insOf_go]; simp
theorem clash_none {f : List FI} (h : ∀ x ∈ f, x.at_ ∉ insOf f) : clash f = none := by
  unfold clash
  rw [Option.map_eq_none_iff, List.find?_eq_none]
  intro x hx hc
  refine h x hx ((mem_insOf _ _).2 ?_)
  obtain ⟨y, hy, e⟩ := List.any_eq_true.1 hc
  simp at e
  exact ⟨y, hy, e.1, e.2.symm⟩
/-- The world behind the first loop: the calls are told; vi: the instructions that are told; S: what lies in an operand (the map in block g). -/
structure TS (w W : World) (cw : Int) (f : List FI) (c : List Int) (Ac : Option Addr) (nc : Nat) (g : Nat) (vi : Value) (is : List FI) (S : List Int) : Prop where
  below : Below w.heap.size w W
  r6 : W.heap[w.heap.size]? = some (.cells #[.int .u16 0, .slice none 0 0, .slice none 0 0] 53 (0, 0))
  r7 : W.heap[w.heap.size + 1]? = some (.cells #[.int .i64 0, .int .u16 0] 33 (0, 0))
  out : W.heap[w.heap.size + 1 + 1]? = some (.cells #[.int .u16 cw, vi, .slice Ac c.length nc] 53 (0, 0))
  found : MapAt W (w.heap.size + 1 + 1 + 1) (fFn f)
  far : w.heap.size + 1 + 1 + 1 < g
  inside : SetAt W g S
  rowc : RowU W (w.heap.size + 1 + 1 + 1 + 1) (.slice Ac c.length nc) c
  rowi : RowI W (w.heap.size + 1 + 1 + 1 + 1) vi is
  apart : ∀ k, (Value.slice Ac c.length nc).ownBlock = some k → vi.ownBlock ≠ some k ∧ k ≠ g
  inrow : vi.ownBlock ≠ some g

theorem RowI.own {w : World} {base : Nat} {v : Value} {l : List FI} (h : RowI w base v l) (k : Nat) (hk : v.ownBlock = some k) : k < w.heap.size ∧ base ≤ k := by
  rcases h.2 with ⟨rfl, _⟩ | ⟨g, cap, cur, rfl, hb, hh, _⟩
  · simp [Value.ownBlock] at hk
  · have : g = k := by simpa [Value.ownBlock] using hk
    subst this
    exact ⟨heap_lt hh, hb⟩
theorem RowI.slice {w : World} {base : Nat} {v : Value} {l : List FI} (h : RowI w base v l) : ∃ A c, v = .slice A l.length c := by
  rcases h.2 with ⟨rfl, hn⟩ | ⟨g, cap, cur, rfl, _⟩
  · exact ⟨none, 0, by rw [hn]⟩
  · exact ⟨_, cap, rfl⟩
def FI.cells (x : FI) : List Value := [.int .u16 x.at_, .int .i64 x.op, .int .u16 x.operand, .int .u16 x.word, .int .u16 x.next]
theorem flat5 : ∀ (l : List FI) (i k : Nat) (hi : i < l.length), k < 5 → (l.flatMap FI.cells)[i * 5 + k]? = (l[i]).cells[k]?
  | x :: l, 0, k, _, hk => by
    rw [List.flatMap_cons, List.getElem?_append_left (by simp [FI.cells]; omega)]
    simp
  | x :: l, i + 1, k, hi, hk => by
    have h5 : x.cells.length = 5 := rfl
    rw [List.flatMap_cons, List.getElem?_append_right (by rw [h5]; omega), h5, show (i + 1) * 5 + k - 5 = i * 5 + k by omega]
    exact flat5 l i k (by simpa using hi) hk
theorem RowI.at_ {w : World} {base n c : Nat} {A : Option Addr} {l : List FI} (h : RowI w base (.slice A n c) l) {i : Nat} (hi : i < l.length) : ∃ g, A = some ⟨g, 0, none⟩ ∧
    w.cell? ⟨g, i * 5, none⟩ = some (.int .u16 l[i].at_) ∧ w.cell? ⟨g, i * 5 + 1, none⟩ = some (.int .i64 l[i].op) ∧ w.cell? ⟨g, i * 5 + 2, none⟩ = some (.int .u16 l[i].operand) ∧ w.cell? ⟨g, i * 5 + 3, none⟩ = some (.int .u16 l[i].word) ∧ w.cell? ⟨g, i * 5 + 4, none⟩ = some (.int .u16 l[i].next) := by
  have h' : w.ownsRow base 60 5 (.slice A n c) l.length (l.flatMap FI.cells) := h
  rcases h'.2 with ⟨e, hn⟩ | ⟨g, cap, cur, e, hg, _⟩
  · omega
  · cases e
    have key : ∀ k u, k < 5 → (l[i]).cells[k]? = some u → w.cell? ⟨g, i * 5 + k, none⟩ = some u := fun k u hk hu => by
      have := h'.cells (g := g) rfl (i * 5 + k) u (by rw [flat5 l i k hi hk]; exact hu)
      have e : (⟨g, 0, none⟩ : Addr).add (i * 5 + k) = ⟨g, i * 5 + k, none⟩ := by unfold Addr.add; split <;> simp_all
      rwa [e] at this
    exact ⟨g, rfl, key 0 _ (by decide) rfl, key 1 _ (by decide) rfl, key 2 _ (by decide) rfl, key 3 _ (by decide) rfl, key 4 _ (by decide) rfl⟩
/-- An instruction appended, and the row told in the word. -/
theorem TS.app {w W W' : World} {cw : Int} {f : List FI} {c : List Int} {Ac : Option Addr} {nc g : Nat} {vi : Value} {is : List FI} {S : List Int} {x : FI} {n g' cap' : Nat} {o1 o2 : Obj} (h : TS w W cw f c Ac nc g vi is S) (hn : n = is.length)
    (hgr : World.grownBy (World.alloc (World.alloc W o1) o2) W' vi.ownBlock)
    (ho : W'.ownsRow (w.heap.size + 1 + 1 + 1 + 1) 60 5 (.slice (some ⟨g', 0, none⟩) (n + 1) cap') (n + 1) ((is.flatMap fun x => [.int .u16 x.at_, .int .i64 x.op, .int .u16 x.operand, .int .u16 x.word, .int .u16 x.next]) ++ [.int .u16 x.at_, .int .i64 x.op, .int .u16 x.operand, .int .u16 x.word, .int .u16 x.next]))
    (hnew : some g' = vi.ownBlock ∨ W.heap.size ≤ g') :
    W'.heap[w.heap.size + 1 + 1]? = some (.cells #[.int .u16 cw, vi, .slice Ac c.length nc] 53 (0, 0)) ∧ W'.heap[W.heap.size]? = some o1 ∧
    TS w (W'.setCell ⟨w.heap.size + 1 + 1, 1, none⟩ (.slice (some ⟨g', 0, none⟩) (n + 1) cap')) cw f c Ac nc g (.slice (some ⟨g', 0, none⟩) (n + 1) cap') (is ++ [x]) S := by
  have hs : w.heap.size + 1 + 1 + 1 < W.heap.size := MapAt.lt h.found
  have hgs : g < W.heap.size := MapAt.lt h.inside
  have e1 : (World.alloc W o1).heap.size = W.heap.size + 1 := by simp
  have e2 : (World.alloc (World.alloc W o1) o2).heap.size = W.heap.size + 1 + 1 := by simp
  have kb : ∀ i, i < W.heap.size → vi.ownBlock ≠ some i → W'.heap[i]? = W.heap[i]? := fun i hi hn =>
    (hgr.block i (by omega) (fun e => hn e.symm)).trans ((Below.heap_alloc _ _ _ (by omega)).trans (Below.heap_alloc _ _ _ hi))
  have nb : ∀ i, i < w.heap.size + 1 + 1 + 1 + 1 → vi.ownBlock ≠ some i := fun i hi e => by have := (h.rowi.own i e).2; omega
  have nw : vi.ownBlock ≠ some W.heap.size := fun e => by have := (h.rowi.own _ e).1; omega
  have ng : vi.ownBlock ≠ some g := h.inrow
  have ko := (kb _ (by omega) (nb _ (by omega))).trans h.out
  have far : ∀ i, i ≠ w.heap.size + 1 + 1 → (W'.setCell ⟨w.heap.size + 1 + 1, 1, none⟩ (.slice (some ⟨g', 0, none⟩) (n + 1) cap')).heap[i]? = W'.heap[i]? := fun i hi => heap_set_far hi
  have hB : Below w.heap.size w W' := by
    have hb2 := b_alloc (b_alloc h.below o1) o2
    exact hb2.grown hgr hb2.size (fun k hk => by have := (h.rowi.own k hk).2; omega)
  refine ⟨ko, (hgr.block _ (by omega) (fun e => nw e.symm)).trans (heap_alloc_old (heap_alloc_at _ _)), below_set1 hB (by omega) _ _, ?_, ?_, heap_set_cell ko 1 _, ?_, h.far, ?_, ?_, ?_, ?_, ?_⟩
  · exact (far _ (by omega)).trans ((kb _ (by omega) (nb _ (by omega))).trans h.r6)
  · exact (far _ (by omega)).trans ((kb _ (by omega) (nb _ (by omega))).trans h.r7)
  · exact MapAt.move h.found ((far _ (by omega)).trans (kb _ (by omega) (nb _ (by omega))))
  · exact MapAt.move h.inside ((far _ (by have := h.far; omega)).trans (kb _ hgs ng))
  · exact h.rowc.move (fun k hk => (far k (by have := (h.rowc.lt k hk).2; omega)).trans (kb k (h.rowc.lt k hk).1 (h.apart k hk).1))
  · have hl : (is ++ [x]).length = n + 1 := by simp [hn]
    have hf : ((is ++ [x]).flatMap fun x => [Value.int .u16 x.at_, .int .i64 x.op, .int .u16 x.operand, .int .u16 x.word, .int .u16 x.next]) = (is.flatMap fun x => [Value.int .u16 x.at_, .int .i64 x.op, .int .u16 x.operand, .int .u16 x.word, .int .u16 x.next]) ++ [.int .u16 x.at_, .int .i64 x.op, .int .u16 x.operand, .int .u16 x.word, .int .u16 x.next] := by simp
    unfold RowI
    rw [hl, hf]
    obtain ⟨h1, h2⟩ := ho
    refine ⟨h1, ?_⟩
    rcases h2 with h2 | ⟨g2, cap2, cur, e, hg2, hh, r⟩
    · exact .inl h2
    · exact .inr ⟨g2, cap2, cur, e, hg2, (far g2 (by omega)).trans hh, r⟩
  · intro k hk
    refine ⟨?_, (h.apart k hk).2⟩
    intro e
    have e' : g' = k := by simpa [Value.ownBlock] using e
    rcases hnew with hn' | hn'
    · exact (h.apart k hk).1 (by rw [← hn', e'])
    · have := (h.rowc.lt k hk).1; omega
  · intro e
    have e' : g' = g := by simpa [Value.ownBlock] using e
    rcases hnew with hn' | hn'
    · exact ng (by rw [← hn', e'])
    · omega

theorem TS.bel {w W W' : World} {cw : Int} {f : List FI} {c : List Int} {Ac : Option Addr} {nc g : Nat} {vi : Value} {is : List FI} {S : List Int} (h : TS w W cw f c Ac nc g vi is S) (hb : Below W.heap.size W W') : TS w W' cw f c Ac nc g vi is S := by
  have hs : w.heap.size + 1 + 1 + 1 < W.heap.size := MapAt.lt h.found
  have hgs : g < W.heap.size := MapAt.lt h.inside
  refine ⟨b_then h.below hb, (hb.block _ (by omega)).trans h.r6, (hb.block _ (by omega)).trans h.r7, (hb.block _ (by omega)).trans h.out, MapAt.below h.found hb, h.far, MapAt.below h.inside hb, h.rowc.below hb, ?_, h.apart, h.inrow⟩
  obtain ⟨h1, h2⟩ := h.rowi
  refine ⟨h1, ?_⟩
  rcases h2 with h2 | ⟨g2, cap2, cur, e, hg2, hh, r⟩
  · exact .inl h2
  · exact .inr ⟨g2, cap2, cur, e, hg2, (hb.block _ (heap_lt hh)).trans hh, r⟩
theorem TS.set_in {w W W' : World} {cw : Int} {f : List FI} {c : List Int} {Ac : Option Addr} {nc g : Nat} {vi : Value} {is : List FI} {S S' : List Int} (h : TS w W cw f c Ac nc g vi is S) (hu : Upd W W' (fun i => i = g)) (hS : SetAt W' g S') : TS w W' cw f c Ac nc g vi is S' := by
  have hs : w.heap.size + 1 + 1 + 1 < W.heap.size := MapAt.lt h.found
  have hgs : g < W.heap.size := MapAt.lt h.inside
  have hf := h.far
  refine ⟨h.below.trans (hu.below (by omega) (fun i hi => by omega)), hu.keep h.r6 (by omega), hu.keep h.r7 (by omega), hu.keep h.out (by omega), MapAt.upd h.found hu (by omega), h.far, hS, h.rowc.move (fun k hk => hu.block k (h.rowc.lt k hk).1 (h.apart k hk).2), ?_, h.apart, h.inrow⟩
  obtain ⟨h1, h2⟩ := h.rowi
  refine ⟨h1, ?_⟩
  rcases h2 with h2 | ⟨g2, cap2, cur, e, hg2, hh, r⟩
  · exact .inl h2
  · refine .inr ⟨g2, cap2, cur, e, hg2, hu.keep hh (fun e2 => h.inrow ?_), r⟩
    rw [e, ← e2]; rfl

/-- The relation of the walk's first loop. -/
structure WR (w W : World) (code T : List Int) (cw : Int) (k : Nat) (r : Except (Int × Int) (List FI × List Int)) (o : List Int) (f : List FI) (c : List Int) : Prop where
  run : wl code T k o f c = some r
  st : WS w W cw o f c
  sorted : o.Pairwise (fun a b => a < b)
  ok : ∀ x ∈ f, x.Ok
  fsorted : f.Pairwise (fun a b => a.at_ < b.at_)
  csorted : c.Pairwise (fun a b => a < b)

theorem MapAt.len {P : Program} {w : World} {r : Nat} {es : Array MapEntry} {clk : Nat} (hb : w.heap[r]? = some (.map es clk)) {t k e : TypeId} (ht : P.underlying t = some (.map k e)) (ty : TypeId) : (Builtin.len_ #[t] ty #[.map (some r)]).run P w = .ok (.int .i64 (es.size : Int)) w := by
  simp [Builtin.len_, run_underlying ht, MapKept.run_getObj_map hb, Result.andThen, goInt]
theorem zero_bool (W : World) : (zeroValue 4).run Tryd.prog W = .ok (.bool false) W := by kernel_rfl
theorem SetAt.in_ {W : World} {b : Nat} {T : List Int} {a : Int} (h : SetAt W b T) (ha : a ∈ T) : (Instr.lookup 80 (.map (some b)) (.int .u16 a) false).run Tryd.prog W = .ok (.bool true) W :=
  MapAt.look_some (P := Tryd.prog) h Tryd.underlying80 Tryd.underlying23 (by simp [setFn, ha]) false
theorem SetAt.out_ {W : World} {b : Nat} {T : List Int} {a : Int} (h : SetAt W b T) (ha : a ∉ T) : (Instr.lookup 80 (.map (some b)) (.int .u16 a) false).run Tryd.prog W = .ok (.bool false) W :=
  MapAt.look_none (P := Tryd.prog) h Tryd.underlying80 Tryd.underlying23 (zero_bool W) (by simp [setFn, ha]) false
theorem RowU.raise {w : World} {base base' : Nat} {v : Value} {ss : List Int} (h : RowU w base v ss) (hb : ∀ k, v.ownBlock = some k → base' ≤ k) : RowU w base' v ss := by
  obtain ⟨h1, h2⟩ := h
  refine ⟨h1, ?_⟩
  rcases h2 with h2 | ⟨g, cap, cur, rfl, hg, r⟩
  · exact .inl h2
  · exact .inr ⟨g, cap, cur, rfl, hb g (by simp [Value.ownBlock]), r⟩
theorem RowU.at_ {W : World} {base : Nat} {A : Option Addr} {n c : Nat} {ss : List Int} (h : RowU W base (.slice A n c) ss) {i : Nat} (hi : i < ss.length) : ∃ g, A = some ⟨g, 0, none⟩ ∧ W.cell? ⟨g, i, none⟩ = some (.int .u16 ss[i]) := by
  rcases h.rw_ with ⟨_, rfl⟩ | ⟨g, c', e, hg, hR⟩
  · simp at hi
  · cases e
    have := hR.cell hi
    rw [List.getD_eq_getElem?_getD, List.getElem?_eq_getElem hi] at this
    exact ⟨g, rfl, this⟩
theorem leads_len (x : FI) : (leadsOf x).length ≤ 2 := by
  unfold leadsOf
  split
  · simp
  · split
    · simp
    · split <;> simp
theorem fFn_some {f : List FI} {n : Int} {v : Value} (h : fFn f n = some v) : ∃ y : FI, v = y.val := by
  unfold fFn at h
  cases hq : f.find? (fun x => x.at_ == n) with
  | none => rw [hq] at h; cases h
  | some y => rw [hq] at h; exact ⟨y, (Option.some.inj h).symm⟩
/-- Two lists that rise and have the same members are one. -/
theorem rise_eq : ∀ (l m : List Int), l.Pairwise (fun a b => a < b) → m.Pairwise (fun a b => a < b) → (∀ x, x ∈ l ↔ x ∈ m) → l = m
  | [], [], _, _, _ => rfl
  | [], b :: m, _, _, h => absurd ((h b).2 List.mem_cons_self) (by simp)
  | a :: l, [], _, _, h => absurd ((h a).1 List.mem_cons_self) (by simp)
  | a :: l, b :: m, hl, hm, h => by
    obtain ⟨l1, l2⟩ := List.pairwise_cons.1 hl
    obtain ⟨m1, m2⟩ := List.pairwise_cons.1 hm
    have e : a = b := by
      rcases List.mem_cons.1 ((h a).1 List.mem_cons_self) with e | e
      · exact e
      · rcases List.mem_cons.1 ((h b).2 List.mem_cons_self) with e' | e'
        · exact e'.symm
        · have := m1 a e; have := l1 b e'; omega
    subst e
    rw [rise_eq l m l2 m2 (fun x => ?_)]
    constructor
    · intro hx
      rcases List.mem_cons.1 ((h x).1 (List.mem_cons_of_mem _ hx)) with e | e
      · have := l1 x hx; omega
      · exact e
    · intro hx
      rcases List.mem_cons.1 ((h x).2 (List.mem_cons_of_mem _ hx)) with e | e
      · have := m1 x hx; omega
      · exact e
theorem fFn_at : ∀ (f : List FI), f.Pairwise (fun a b => a.at_ < b.at_) → ∀ x ∈ f, fFn f x.at_ = some x.val
  | [], _, x, h => by cases h
  | y :: l, hp, x, h => by
    obtain ⟨h1, h2⟩ := List.pairwise_cons.1 hp
    unfold fFn
    rw [List.find?_cons]
    rcases List.mem_cons.1 h with rfl | h
    · simp
    · have := h1 x h
      have e : (y.at_ == x.at_) = false := by simp; omega
      rw [e]
      exact fFn_at l h2 x h
theorem fFn_mem {f : List FI} (n : Int) : (fFn f n).isSome = true ↔ n ∈ f.map FI.at_ := by
  unfold fFn
  rw [Option.isSome_map, List.find?_isSome, List.mem_map]
  constructor
  · rintro ⟨x, hx, e⟩; exact ⟨x, hx, by simpa using e⟩
  · rintro ⟨x, hx, e⟩; exact ⟨x, hx, by simpa using e⟩
theorem ats_sorted {f : List FI} (h : f.Pairwise (fun a b => a.at_ < b.at_)) : (f.map FI.at_).Pairwise (fun a b => a < b) := List.pairwise_map.2 h
/-- The keys of a set in order are the set. -/
theorem keys_set {c ss : List Int} (hc : c.Pairwise (fun a b => a < b)) (h1 : ss.Pairwise (fun a b => a < b)) (h2 : ∀ x, x ∈ ss ↔ (setFn c x).isSome = true) : ss = c :=
  rise_eq ss c h1 hc (fun x => (h2 x).trans setFn_some)
theorem keys_found {f : List FI} {ss : List Int} (hc : f.Pairwise (fun a b => a.at_ < b.at_)) (h1 : ss.Pairwise (fun a b => a < b)) (h2 : ∀ x, x ∈ ss ↔ (fFn f x).isSome = true) : ss = f.map FI.at_ :=
  rise_eq ss _ h1 (ats_sorted hc) (fun x => (h2 x).trans (fFn_mem x))
theorem nodup_sub : ∀ (l m : List Int), l.Nodup → (∀ x ∈ l, x ∈ m) → l.length ≤ m.length
  | [], m, _, _ => by simp
  | a :: l, m, hn, h => by
    obtain ⟨h1, h2⟩ := List.nodup_cons.1 hn
    have ha := h a List.mem_cons_self
    have := nodup_sub l (m.erase a) h2 (fun x hx => (List.mem_erase_of_ne (a := x) (b := a) (fun e => h1 (by rw [← e]; exact hx))).2 (h x (List.mem_cons_of_mem _ hx)))
    rw [List.length_erase_of_mem ha] at this
    have hp : 0 < m.length := List.length_pos_of_mem ha
    simp only [List.length_cons]
    omega
theorem keys_len {c ss : List Int} (h : KeysOf (setFn c) ss) : ss.length ≤ c.length := nodup_sub ss c h.1 (fun x hx => setFn_some.1 ((h.2 x).1 hx))
theorem keys_lenF {f : List FI} {ss : List Int} (h : KeysOf (fFn f) ss) : ss.length ≤ f.length := by
  have := nodup_sub ss (f.map FI.at_) h.1 (fun x hx => (fFn_mem x).1 ((h.2 x).1 hx))
  simpa using this
theorem push_sorted (f : List FI) : ∀ (l o : List Int), o.Pairwise (fun a b => a < b) → (l.foldl (push f) o).Pairwise (fun a b => a < b)
  | [], o, h => h
  | x :: l, o, h => push_sorted f l _ (by unfold push; split; exact h; exact ins_sorted x o h)
theorem zero_instr (W : World) : (zeroValue 60).run Tryd.prog W = .ok (.agg #[.int .u16 0, .int .i64 0, .int .u16 0, .int .u16 0, .int .u16 0]) W := by kernel_rfl
/-- After an instruction is found. -/
theorem WS.find {w W W' : World} {cw : Int} {o : List Int} {f : List FI} {c : List Int} {a p q r s : Int} {X : FI} (h : WS w W cw o f c) (hX : X.val = .agg #[.int .u16 a, .int .i64 p, .int .u16 q, .int .u16 r, .int .u16 s]) (ha : X.at_ = a) (ob : Obj)
    (m1 : MapAt W' (w.heap.size + 1 + 1 + 1) (fun j => if j = a then some (.agg #[.int .u16 a, .int .i64 p, .int .u16 q, .int .u16 r, .int .u16 s]) else fFn f j)) (m2 : Upd (W.alloc ob) W' (fun i => i = w.heap.size + 1 + 1 + 1)) :
    WS w W' cw o (insI X f) c ∧ W'.heap[W.heap.size]? = some ob := by
  have h' := h.bel (W' := W.alloc ob) ((Below.refl _ _).alloc (Nat.le_refl _) _)
  have hs := h.size
  refine ⟨h'.set_found m2 (MapAt.ext m1 (fun n => ?_)), m2.keep (heap_alloc_at _ _) (by omega)⟩
  rw [fFn_ins, ha, hX]
theorem SetAt.put_ {W W' : World} {b : Nat} {S : List Int} {x : Int} (h : SetAt W b S) (m1 : MapAt W' b (fun j => if j = x then some (.bool true) else setFn S j)) : SetAt W' b (ins x S) :=
  MapAt.ext m1 (fun n => by
    unfold setFn
    by_cases e : n = x
    · subst e; simp [mem_ins]
    · simp [mem_ins, e])
theorem cells3 {w : World} {b : Nat} {v0 v1 v2 : Value} {t : TypeId} (h : w.heap[b]? = some (.cells #[v0, v1, v2] t (0, 0))) :
    (w.cell? ⟨b, 0, none⟩ = some v0 ∧ w.cell? ⟨b, 1, none⟩ = some v1 ∧ w.cell? ⟨b, 2, none⟩ = some v2) ∧ w.frozen? ⟨b, 0, none⟩ = false ∧ w.frozen? ⟨b, 1, none⟩ = false ∧ w.frozen? ⟨b, 2, none⟩ = false :=
  ⟨⟨cell_of h 0, cell_of h 1, cell_of h 2⟩, free_of h 0, free_of h 1, free_of h 2⟩
theorem cells2 {w : World} {b : Nat} {v0 v1 : Value} {t : TypeId} (h : w.heap[b]? = some (.cells #[v0, v1] t (0, 0))) :
    (w.cell? ⟨b, 0, none⟩ = some v0 ∧ w.cell? ⟨b, 1, none⟩ = some v1) ∧ w.frozen? ⟨b, 0, none⟩ = false ∧ w.frozen? ⟨b, 1, none⟩ = false :=
  ⟨⟨cell_of h 0, cell_of h 1⟩, free_of h 0, free_of h 1⟩
/-- The two results are written. -/
theorem tail_word {P : Program} {fn : Func} {Q : Ending → World → Prop} {act : Act} {w W : World} {u0 u1 u2 u3 u4 v0 v1 v2 v3 v4 : Value}
    (h6 : W.heap[w.heap.size]? = some (.cells #[v0, v1, v2] 53 (0, 0))) (h7 : W.heap[w.heap.size + 1]? = some (.cells #[v3, v4] 33 (0, 0))) (hB : Below w.heap.size w W)
    (k : ∀ V, V.heap[w.heap.size]? = some (.cells #[u0, u1, u2] 53 (0, 0)) → V.heap[w.heap.size + 1]? = some (.cells #[u3, u4] 33 (0, 0)) → Upd W V (fun i => i = w.heap.size ∨ i = w.heap.size + 1) → Below w.heap.size w V → bodyPost P fn Q Exit.ret act V) :
    bodyPost P fn Q Exit.ret act (World.setCell (World.setCell (World.setCell (World.setCell (World.setCell W ⟨w.heap.size, 0, none⟩ u0) ⟨w.heap.size, 1, none⟩ u1) ⟨w.heap.size, 2, none⟩ u2) ⟨w.heap.size + 1, 0, none⟩ u3) ⟨w.heap.size + 1, 1, none⟩ u4) := by
  have e6 := heap_set_cell (heap_set_cell (heap_set_cell h6 0 u0) 1 u1) 2 u2
  have f7 : (World.setCell (World.setCell (World.setCell W ⟨w.heap.size, 0, none⟩ u0) ⟨w.heap.size, 1, none⟩ u1) ⟨w.heap.size, 2, none⟩ u2).heap[w.heap.size + 1]? = some (.cells #[v3, v4] 33 (0, 0)) :=
    (heap_set_far (by omega)).trans ((heap_set_far (by omega)).trans ((heap_set_far (by omega)).trans h7))
  have e7 := heap_set_cell (heap_set_cell f7 0 u3) 1 u4
  have le := Nat.le_refl w.heap.size
  refine k _ ((heap_set_far (by omega)).trans ((heap_set_far (by omega)).trans e6)) e7 ?_ (below_set1 (below_set1 (below_set1 (below_set1 (below_set1 hB le _ _) le _ _) le _ _) (by omega) _ _) (by omega) _ _)
  exact (((((Upd.refl _ _).setCell (p := ⟨w.heap.size, 0, none⟩) (fun _ => .inl rfl) _).setCell (p := ⟨w.heap.size, 1, none⟩) (fun _ => .inl rfl) _).setCell (p := ⟨w.heap.size, 2, none⟩) (fun _ => .inl rfl) _).setCell (p := ⟨w.heap.size + 1, 0, none⟩) (fun _ => .inr rfl) _).setCell (p := ⟨w.heap.size + 1, 1, none⟩) (fun _ => .inr rfl) _
/-- What word leaves. -/
def WordPost (w : World) (cw : Int) (r : Except (Int × Int) FW) (e : Ending) (w' : World) : Prop :=
  Below w.heap.size w w' ∧ match r with
    | .error (z, a) => e = .returned (.tuple #[.agg #[.int .u16 0, .slice none 0 0, .slice none 0 0], .agg #[.int .i64 z, .int .u16 a]])
    | .ok x => ∃ vi vc, e = .returned (.tuple #[.agg #[.int .u16 x.at_, vi, vc], .agg #[.int .i64 0, .int .u16 0]]) ∧ RowI w' w.heap.size vi x.instrs ∧ RowU w' w.heap.size vc x.calls ∧ ∀ k, vc.ownBlock = some k → vi.ownBlock ≠ some k
theorem alloc_at {W : World} {n : Nat} (o : Obj) (h : W.heap.size = n) : (W.alloc o).heap[n]? = some o := by subst h; exact heap_alloc_at _ _
theorem fresh_map {W : World} {n : Nat} (h : W.heap.size = n) : MapAt (W.alloc (.map #[] 0)) n (fun _ => none) := by
  subst h
  exact ⟨⟨#[], 0, heap_alloc_at _ _, IMap.empty _⟩, fun _ _ h => by cases h⟩

theorem ws_start {w w1 : World} {q : Nat} {cw x : Int} (m1 : MapAt w1 (w.heap.size + 1 + 1 + 1 + 1 + 1) (fun j => if j = x then some (.bool true) else none))
    (m2 : Upd (World.alloc (World.alloc (World.alloc (World.alloc (World.drewN (World.alloc (World.alloc w (.cells #[.int .u16 0, .slice none 0 0, .slice none 0 0] 53)) (.cells #[.int .i64 0, .int .u16 0] 33)) q) (.cells #[.int .u16 cw, .slice none 0 0, .slice none 0 0] 53)) (.map #[] 0)) (.map #[] 0)) (.map #[] 0)) w1 (fun i => i = w.heap.size + 1 + 1 + 1 + 1 + 1)) :
    WS w w1 cw [x] [] [] := by
  have hB : Below w.heap.size w (World.alloc (World.alloc (World.alloc (World.alloc (World.drewN (World.alloc (World.alloc w (.cells #[.int .u16 0, .slice none 0 0, .slice none 0 0] 53)) (.cells #[.int .i64 0, .int .u16 0] 33)) q) (.cells #[.int .u16 cw, .slice none 0 0, .slice none 0 0] 53)) (.map #[] 0)) (.map #[] 0)) (.map #[] 0)) :=
    b_alloc (b_alloc (b_alloc (b_alloc (b_drewN (b_alloc (b_alloc (Below.refl _ _) _) _) q) _) _) _) _
  have e0 := heap_alloc_old (o' := .map #[] 0) (heap_alloc_old (o' := .map #[] 0) (heap_alloc_old (o' := .map #[] 0) (heap_alloc_old (o' := .cells #[.int .u16 cw, .slice none 0 0, .slice none 0 0] 53) (show (World.drewN (World.alloc (World.alloc w (.cells #[.int .u16 0, .slice none 0 0, .slice none 0 0] 53)) (.cells #[.int .i64 0, .int .u16 0] 33)) q).heap[w.heap.size]? = _ from heap_alloc_old (heap_alloc_at w _)))))
  have e1 := heap_alloc_old (o' := .map #[] 0) (heap_alloc_old (o' := .map #[] 0) (heap_alloc_old (o' := .map #[] 0) (heap_alloc_old (o' := .cells #[.int .u16 cw, .slice none 0 0, .slice none 0 0] 53) (show (World.drewN (World.alloc (World.alloc w (.cells #[.int .u16 0, .slice none 0 0, .slice none 0 0] 53)) (.cells #[.int .i64 0, .int .u16 0] 33)) q).heap[w.heap.size + 1]? = _ from alloc_at _ (by simp)))))
  have e2 := heap_alloc_old (o' := .map #[] 0) (heap_alloc_old (o' := .map #[] 0) (heap_alloc_old (o' := .map #[] 0) (alloc_at (W := (World.drewN (World.alloc (World.alloc w (.cells #[.int .u16 0, .slice none 0 0, .slice none 0 0] 53)) (.cells #[.int .i64 0, .int .u16 0] 33)) q)) (n := w.heap.size + 1 + 1) (.cells #[.int .u16 cw, .slice none 0 0, .slice none 0 0] 53) (by simp))))
  have e3 := heap_alloc_old (o' := .map #[] 0) (heap_alloc_old (o' := .map #[] 0) (alloc_at (W := World.alloc (World.drewN (World.alloc (World.alloc w (.cells #[.int .u16 0, .slice none 0 0, .slice none 0 0] 53)) (.cells #[.int .i64 0, .int .u16 0] 33)) q) (.cells #[.int .u16 cw, .slice none 0 0, .slice none 0 0] 53)) (n := w.heap.size + 1 + 1 + 1) (.map #[] 0) (by simp)))
  have e4 := heap_alloc_old (o' := .map #[] 0) (alloc_at (W := World.alloc (World.alloc (World.drewN (World.alloc (World.alloc w (.cells #[.int .u16 0, .slice none 0 0, .slice none 0 0] 53)) (.cells #[.int .i64 0, .int .u16 0] 33)) q) (.cells #[.int .u16 cw, .slice none 0 0, .slice none 0 0] 53)) (.map #[] 0)) (n := w.heap.size + 1 + 1 + 1 + 1) (.map #[] 0) (by simp))
  exact ⟨hB.trans (m2.below (by simp; omega) (fun i hi => by omega)), m2.keep e0 (by omega), m2.keep e1 (by omega), m2.keep e2 (by omega),
    ⟨⟨_, _, m2.keep e3 (by omega), IMap.empty _⟩, fun _ _ h => by cases h⟩,
    MapAt.ext (f := fun _ => none) ⟨⟨_, _, m2.keep e4 (by omega), IMap.empty _⟩, fun _ _ h => by cases h⟩ (fun n => by simp [setFn]),
    MapAt.ext m1 (fun n => by simp [setFn])⟩

set_option maxRecDepth 100000 in
set_option maxHeartbeats 4000000 in
/-- The code field is no enter. -/
theorem word_none (w : World) (A : Option Addr) (c : Nat) (code : List Int) (cw : Int) (bt : Nat) (h : CodeIn w A code) (h0 : 0 ≤ cw) (h1 : cw < 65536) (hc : cellOf code cw ≠ some 1) :
    Calls Tryd.prog 33 #[.slice A code.length c, .int .u16 cw, .map (some bt)] w fun e w' => WordPost w cw (.error (163, cw)) e w' := by
  have E : Hid (∀ W, Below w.heap.size w W → Calls Tryd.prog 51 #[.slice A code.length c, .int .u16 cw] W fun e w' => e = .returned (.tuple #[.int .u16 ((cellOf code cw).getD 0), .bool (cellOf code cw).isSome]) ∧ Quiet W w') := fun W hW => cell_any W A c code cw (h.below hW) h0 h1
  clear h
  have start : Hid (∀ q, (World.drewN (World.alloc (World.alloc w (.cells #[.int .u16 0, .slice none 0 0, .slice none 0 0] 53)) (.cells #[.int .i64 0, .int .u16 0] 33)) q).heap[w.heap.size]? = some (.cells #[.int .u16 0, .slice none 0 0, .slice none 0 0] 53 (0, 0)) ∧
      (World.drewN (World.alloc (World.alloc w (.cells #[.int .u16 0, .slice none 0 0, .slice none 0 0] 53)) (.cells #[.int .i64 0, .int .u16 0] 33)) q).heap[w.heap.size + 1]? = some (.cells #[.int .i64 0, .int .u16 0] 33 (0, 0))) := fun q => by
    constructor
    · show (World.alloc (World.alloc w _) _).heap[w.heap.size]? = _
      exact heap_alloc_old (heap_alloc_at w _)
    · show (World.alloc (World.alloc w _) _).heap[w.heap.size + 1]? = _
      exact alloc_at _ (by simp)
  cases hv : cellOf code cw with
  | none =>
    rw [hv] at E
    clear hv hc
    go_enter Tryd.func33, Tryd.ntmps33
    go_wp2_with (go_at_call 51; refine (E.out _ (by repeat (first | exact Below.refl _ _ | apply b_alloc | apply b_drewN))).mono ?_; rintro e W ⟨rfl, q, rfl⟩)
    refine tail_word (start.out q).1 (start.out q).2 (b_drewN (b_alloc (b_alloc (Below.refl _ _) _) _) q) ?_
    intro V g6 g7 _ hB
    obtain ⟨⟨x0, x1, x2⟩, _⟩ := cells3 g6
    obtain ⟨⟨x3, x4⟩, _⟩ := cells2 g7
    refine bodyPost_ret (v := .tuple #[.agg #[.int .u16 0, .slice none 0 0, .slice none 0 0], .agg #[.int .i64 163, .int .u16 cw]]) (by simp [results, Tryd.results33, go_sem, x0, x1, x2, x3, x4]) rfl ⟨hB, rfl⟩
  | some v =>
    rw [hv] at E hc
    have hn : v ≠ 1 := fun e => hc (by rw [e])
    have hb : (v != 1) = true := by simp [hn]
    clear hv hc
    go_enter Tryd.func33, Tryd.ntmps33
    go_wp2_with (go_at_call 51; refine (E.out _ (by repeat (first | exact Below.refl _ _ | apply b_alloc | apply b_drewN))).mono ?_; rintro e W ⟨rfl, q, rfl⟩)
    refine tail_word (start.out q).1 (start.out q).2 (b_drewN (b_alloc (b_alloc (Below.refl _ _) _) _) q) ?_
    intro V g6 g7 _ hB
    obtain ⟨⟨x0, x1, x2⟩, _⟩ := cells3 g6
    obtain ⟨⟨x3, x4⟩, _⟩ := cells2 g7
    refine bodyPost_ret (v := .tuple #[.agg #[.int .u16 0, .slice none 0 0, .slice none 0 0], .agg #[.int .i64 163, .int .u16 cw]]) (by simp [results, Tryd.results33, go_sem, x0, x1, x2, x3, x4]) rfl ⟨hB, rfl⟩
end Go.Proofs.YtabeljpnmmfpgaaDoor
