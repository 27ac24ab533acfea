/-
  A map block whose keys are integers, told by a function from numbers to values; worlds that part in a set of blocks alone.
-/
import Derived.WalkKit
import Derived.MapKept
import Derived.Deep.Draws
import Derived.Maps.Keyed
namespace Go.Proofs.YtabeljpnmmfpgaaDoor
open Go.RowKit Go.MapKept
set_option linter.unusedVariables false

/-- w' is w but for the blocks of S and for new blocks. -/
structure Upd (w w' : World) (S : Nat → Prop) : Prop where
  os : w'.os = w.os
  tape : w'.tape = w.tape
  output : w'.output = w.output
  size : w.heap.size ≤ w'.heap.size
  block : ∀ i, i < w.heap.size → ¬ S i → w'.heap[i]? = w.heap[i]?

theorem Upd.refl (w : World) (S : Nat → Prop) : Upd w w S := ⟨rfl, rfl, rfl, Nat.le_refl _, fun _ _ _ => rfl⟩
theorem Upd.trans {a b c : World} {S T : Nat → Prop} (h : Upd a b S) (k : Upd b c T) (hT : ∀ i, i < a.heap.size → T i → S i) : Upd a c S :=
  ⟨k.os.trans h.os, k.tape.trans h.tape, k.output.trans h.output, Nat.le_trans h.size k.size,
   fun i hi hs => (k.block i (Nat.lt_of_lt_of_le hi h.size) (fun ht => hs (hT i hi ht))).trans (h.block i hi hs)⟩
theorem Upd.mono {a b : World} {S T : Nat → Prop} (h : Upd a b S) (hT : ∀ i, i < a.heap.size → S i → T i) : Upd a b T :=
  ⟨h.os, h.tape, h.output, h.size, fun i hi hs => h.block i hi (fun ht => hs (hT i hi ht))⟩
theorem Upd.drewN {a b : World} {S : Nat → Prop} (h : Upd a b S) (n : Nat) : Upd a (b.drewN n) S := ⟨h.os, h.tape, h.output, h.size, h.block⟩
theorem Upd.drew {a b : World} {S : Nat → Prop} (h : Upd a b S) : Upd a b.drew S := ⟨h.os, h.tape, h.output, h.size, h.block⟩
theorem Upd.alloc {a b : World} {S : Nat → Prop} (h : Upd a b S) (o : Obj) : Upd a (b.alloc o) S :=
  h.trans (T := fun _ => False) ⟨rfl, rfl, rfl, by simp, fun i hi _ => Below.heap_alloc _ _ _ hi⟩ (fun _ _ f => f.elim)
theorem Upd.setCell {a b : World} {S : Nat → Prop} (h : Upd a b S) {p : Addr} (hp : p.block < a.heap.size → S p.block) (u : Value) : Upd a (b.setCell p u) S :=
  h.trans (T := fun i => i = p.block) ⟨rfl, rfl, rfl, by simp [World.setCell], fun i _ hi => Below.heap_setCell _ _ _ _ hi⟩ (fun i hi e => by subst e; exact hp hi)
theorem Upd.of_grown {a b : World} {row : Option Nat} (h : a.grownBy b row) : Upd a b (fun i => some i = row) :=
  ⟨h.os, h.tape, h.output, h.size, fun i hi hs => h.block i hi hs⟩
theorem Upd.of_below {a b : World} (h : Below a.heap.size a b) (S : Nat → Prop) : Upd a b S := ⟨h.os, h.tape, h.output, h.size, fun i hi _ => h.block i hi⟩
theorem Upd.below {a b : World} {S : Nat → Prop} {B : Nat} (h : Upd a b S) (hB : B ≤ a.heap.size) (hS : ∀ i, S i → B ≤ i) : Below B a b :=
  ⟨h.os, h.tape, h.output, h.size, fun i hi => h.block i (by omega) (fun s => by have := hS i s; omega)⟩
theorem Upd.keep {a b : World} {S : Nat → Prop} (h : Upd a b S) {i : Nat} {o : Obj} (hi : a.heap[i]? = some o) (hs : ¬ S i) : b.heap[i]? = some o :=
  (h.block i (Array.getElem?_eq_some_iff.1 hi).1 hs).trans hi

theorem heap_lt {w : World} {i : Nat} {o : Obj} (h : w.heap[i]? = some o) : i < w.heap.size := (Array.getElem?_eq_some_iff.1 h).1
theorem heap_ne {w : World} {i j : Nat} {o o' : Obj} (h : w.heap[i]? = some o) (h' : w.heap[j]? = some o') (hne : o ≠ o') : i ≠ j := by
  rintro rfl; rw [h] at h'; exact hne (Option.some.inj h')
theorem cells_ne {c c' : Array Value} {t t' : TypeId} {z z' : Nat × Nat} (h : t ≠ t') : Obj.cells c t z ≠ Obj.cells c' t' z' := by
  intro e; cases e; exact h rfl
theorem cell_of {w : World} {b : Nat} {cs : Array Value} {t : TypeId} (h : w.heap[b]? = some (.cells cs t (0, 0))) (i : Nat) : w.cell? ⟨b, i, none⟩ = cs[i]? := by
  simp [World.cell?, h]
theorem free_of {w : World} {b : Nat} {cs : Array Value} {t : TypeId} (h : w.heap[b]? = some (.cells cs t (0, 0))) (i : Nat) : w.frozen? ⟨b, i, none⟩ = false := by
  simp [World.frozen?, h]
theorem heap_set_cell {w : World} {b : Nat} {cs : Array Value} {t : TypeId} (h : w.heap[b]? = some (.cells cs t (0, 0))) (i : Nat) (v : Value) :
    (w.setCell ⟨b, i, none⟩ v).heap[b]? = some (.cells (cs.setIfInBounds i v) t (0, 0)) := by
  simp [World.setCell, Array.getElem?_modify, h]
theorem heap_set_far {w : World} {b i k : Nat} {v : Value} (hk : k ≠ b) : (w.setCell ⟨b, i, none⟩ v).heap[k]? = w.heap[k]? := Below.heap_setCell _ _ _ _ hk
theorem heap_alloc_at (w : World) (o : Obj) : (w.alloc o).heap[w.heap.size]? = some o := (MapKept.heap_alloc w o).1
theorem heap_alloc_old {w : World} {o o' : Obj} {i : Nat} (h : w.heap[i]? = some o) : (w.alloc o').heap[i]? = some o := (Below.heap_alloc _ _ _ (heap_lt h)).trans h

theorem cell_set_ne {w : World} {b i j : Nat} {v : Value} (h : i ≠ j) : (w.setCell ⟨b, i, none⟩ v).cell? ⟨b, j, none⟩ = w.cell? ⟨b, j, none⟩ := by
  unfold World.cell? World.setCell
  simp only [Array.getElem?_modify, if_true]
  cases hb : w.heap[b]? with
  | none => rfl
  | some o =>
    cases o <;> simp only [Option.map_some]
    simp [h]
theorem frozen_set {w : World} {b i : Nat} {v : Value} (a : Addr) : (w.setCell ⟨b, i, none⟩ v).frozen? a = w.frozen? a := by
  unfold World.frozen? World.setCell
  simp only [Array.getElem?_modify]
  by_cases e : b = a.block
  · subst e
    rw [if_pos rfl]
    cases hb : w.heap[a.block]? with
    | none => rfl
    | some o => cases o <;> rfl
  · rw [if_neg e]

/-! ### maps keyed by integers -/
structure IMap (q : IntKind) (es : Array MapEntry) (clk : Nat) (f : Int → Option Value) : Prop where
  st : Stamped es clk
  keys : ∀ x ∈ es.toList, ∃ n, x.key = .int q n
  rep : ∀ n v, f n = some v ↔ ∃ x ∈ es.toList, x.key = .int q n ∧ x.val = v

theorem IMap.empty (q : IntKind) : IMap q #[] 0 (fun _ => none) := ⟨stamped_empty 0, by simp, by simp⟩

theorem IMap.uniq {q : IntKind} {es : Array MapEntry} {clk : Nat} {f : Int → Option Value} (h : IMap q es clk f) {x y : MapEntry} (hx : x ∈ es.toList) (hy : y ∈ es.toList) (e : x.key = y.key) : x = y := by
  have hp := ((stamped_iff es clk).1 h.st).2.2
  rcases List.getElem_of_mem hx with ⟨i, hi, rfl⟩
  rcases List.getElem_of_mem hy with ⟨j, hj, rfl⟩
  have := List.pairwise_iff_getElem.1 hp
  rcases Nat.lt_trichotomy i j with g | g | g
  · exact absurd e (this i j hi hj g)
  · subst g; rfl
  · exact absurd e.symm (this j i hj hi g)

section
variable {P : Program} {w : World} {q : IntKind} {es : Array MapEntry} {clk : Nat} {f : Int → Option Value} {r : Nat} {t k e : TypeId}

theorem IMap.find (h : IMap q es clk f) (hk : P.underlying k = some (.int q)) (n : Int) :
    (f n = none ∧ (Instr.findKey k (.int q n) es.toList).run P w = .ok none w ∧ ∀ x ∈ es.toList, x.key ≠ .int q n) ∨
    ∃ j x, f n = some x.val ∧ (Instr.findKey k (.int q n) es.toList).run P w = .ok (some (j, x.val)) w ∧ es[j]? = some x ∧ x.key = .int q n := by
  have hks : ∀ x ∈ es.toList, IsKey (.int q) x.key := fun x hx => by
    obtain ⟨m, hm⟩ := h.keys x hx
    rw [hm]; rfl
  rcases findNow_spec (d := .int q) (k := .int q n) rfl es.toList 0 hks with ⟨h1, h2⟩ | ⟨j, x, h1, h2, h3⟩
  · refine .inl ⟨?_, run_findKey hk h1, h2⟩
    cases hf : f n with
    | none => rfl
    | some v =>
      obtain ⟨x, hx, hk', _⟩ := (h.rep n v).1 hf
      exact absurd hk' (h2 x hx)
  · have hx : x ∈ es.toList := List.mem_of_getElem? h2
    exact .inr ⟨j, x, (h.rep n x.val).2 ⟨x, hx, h3, rfl⟩, by simpa using run_findKey hk h1, by simpa using h2, h3⟩

theorem IMap.look_some (h : IMap q es clk f) (hb : w.heap[r]? = some (.map es clk)) (ht : P.underlying t = some (.map k e)) (hk : P.underlying k = some (.int q)) {n : Int} {v : Value} (hf : f n = some v) (c : Bool) :
    (Instr.lookup t (.map (some r)) (.int q n) c).run P w = .ok (if c then .tuple #[v, .bool true] else v) w := by
  rcases h.find (P := P) (w := w) hk n with ⟨h1, _⟩ | ⟨j, x, h1, h2, _⟩
  · rw [hf] at h1; cases h1
  · rw [hf] at h1; cases h1
    simp [Instr.lookup, run_underlying ht, MapKept.run_getObj_map hb, run_checkKey (k := .int q n) hk rfl, h2, Result.andThen]

theorem IMap.look_none (h : IMap q es clk f) (hb : w.heap[r]? = some (.map es clk)) (ht : P.underlying t = some (.map k e)) (hk : P.underlying k = some (.int q)) {n : Int} {z : Value} (hz : (zeroValue e).run P w = .ok z w) (hf : f n = none) (c : Bool) :
    (Instr.lookup t (.map (some r)) (.int q n) c).run P w = .ok (if c then .tuple #[z, .bool false] else z) w := by
  rcases h.find (P := P) (w := w) hk n with ⟨_, h2, _⟩ | ⟨j, x, h1, _⟩
  · simp [Instr.lookup, run_underlying ht, MapKept.run_getObj_map hb, run_checkKey (k := .int q n) hk rfl, h2, hz, Result.andThen]
  · rw [hf] at h1; cases h1

/-- m[n] = v -/
theorem IMap.put (h : IMap q es clk f) (hb : w.heap[r]? = some (.map es clk)) (ht : P.underlying t = some (.map k e)) (hk : P.underlying k = some (.int q)) (n : Int) (v : Value) :
    ∃ es' clk', (Instr.mapUpdate t (.map (some r)) (.int q n) v).run P w = .ok () { w with heap := w.heap.setIfInBounds r (.map es' clk') } ∧
      IMap q es' clk' (fun m => if m = n then some v else f m) ∧ es'.size ≤ es.size + 1 ∧ es.size ≤ es'.size := by
  rcases h.find (P := P) (w := w) hk n with ⟨h0, h1, h2⟩ | ⟨j, e0, h0, h1, h2, h3⟩
  · refine ⟨es.push ⟨.int q n, v, clk⟩, clk + 1, ?_, ⟨stamped_push h.st h2, ?_, ?_⟩, by simp, by simp⟩
    · simp [Instr.mapUpdate, run_underlying ht, MapKept.run_getObj_map hb, run_checkKey (k := .int q n) hk rfl, h1, MapKept.run_setObj_map _ hb, Result.andThen]
    · intro x hx
      simp only [Array.toList_push, List.mem_append, List.mem_singleton] at hx
      rcases hx with hx | rfl
      · exact h.keys x hx
      · exact ⟨n, rfl⟩
    · intro m u
      simp only [Array.toList_push, List.mem_append, List.mem_singleton]
      by_cases hm : m = n
      · subst hm
        rw [if_pos rfl]
        constructor
        · intro e'; cases e'; exact ⟨_, .inr rfl, rfl, rfl⟩
        · rintro ⟨x, hx | rfl, hxk, rfl⟩
          · exact absurd hxk (h2 x hx)
          · rfl
      · rw [if_neg hm, h.rep]
        constructor
        · rintro ⟨x, hx, h4, h5⟩; exact ⟨x, .inl hx, h4, h5⟩
        · rintro ⟨x, hx | rfl, h4, h5⟩
          · exact ⟨x, hx, h4, h5⟩
          · cases h4; exact absurd rfl hm
  · have hjl : es.toList[j]? = some e0 := by simpa using h2
    have he0 : e0 ∈ es.toList := List.mem_of_getElem? hjl
    have hkeyf : ∀ e' ∈ es.toList, es[j]? = some e' → ({ e' with key := .int q n, val := v } : MapEntry).key = e'.key := fun e' _ he' => by rw [h2] at he'; cases he'; exact h3.symm
    have hlist : (es.modify j (fun e' => { e' with key := .int q n, val := v })).toList = es.toList.set j { e0 with key := .int q n, val := v } := by rw [Array.toList_modify, ChangeMaps.modify_eq_set _ _ _ _ hjl]
    have hj : j < es.toList.length := (List.getElem?_eq_some_iff.1 hjl).1
    have hm : ∀ x, x ∈ es.toList.set j { e0 with key := .int q n, val := v } ↔ x = { e0 with key := .int q n, val := v } ∨ (x ∈ es.toList ∧ x.key ≠ .int q n) := by
      intro x
      constructor
      · intro hx
        obtain ⟨i, hi, ex⟩ := List.getElem_of_mem hx
        rw [List.getElem_set] at ex
        split at ex
        · exact .inl ex.symm
        · rename_i hne
          have hi' : i < es.toList.length := by simpa using hi
          refine .inr ⟨ex ▸ List.getElem_mem hi', fun hk' => hne ?_⟩
          have hx' : x ∈ es.toList := ex ▸ List.getElem_mem hi'
          have := h.uniq hx' he0 (hk'.trans h3.symm)
          have hpw := List.pairwise_iff_getElem.1 ((stamped_iff es clk).1 h.st).2.2
          have e0j : es.toList[j] = e0 := (List.getElem?_eq_some_iff.1 hjl).2
          rcases Nat.lt_trichotomy i j with g | g | g
          · exact absurd (by rw [ex, e0j, this]) (hpw i j hi' hj g)
          · exact g.symm
          · exact absurd (by rw [ex, e0j, this]) (hpw j i hj hi' g)
      · rintro (rfl | ⟨hx, hne⟩)
        · exact List.mem_of_getElem? (i := j) (by rw [List.getElem?_set_self hj])
        · obtain ⟨i, hi, rfl⟩ := List.getElem_of_mem hx
          refine List.mem_of_getElem? (i := i) ?_
          rw [List.getElem?_set_ne]
          · exact List.getElem?_eq_getElem hi
          · rintro rfl
            exact hne (by rw [(List.getElem?_eq_some_iff.1 hjl).2]; exact h3)
    refine ⟨es.modify j (fun e' => { e' with key := .int q n, val := v }), clk, ?_, ⟨stamped_modify h.st _ _ (fun _ _ => rfl) hkeyf, ?_, ?_⟩, by simp, by simp⟩
    · simp [Instr.mapUpdate, run_underlying ht, MapKept.run_getObj_map hb, run_checkKey (k := .int q n) hk rfl, h1, h2, h3, run_keyThatStays (d := .int q) (k := .int q n) rfl, MapKept.run_setObj_map _ hb, Result.andThen]
    · rw [hlist]
      intro x hx
      rcases (hm x).1 hx with rfl | ⟨hx', _⟩
      · exact ⟨n, rfl⟩
      · exact h.keys x hx'
    · rw [hlist]
      intro m u
      by_cases e' : m = n
      · subst e'
        rw [if_pos rfl]
        constructor
        · intro e'; cases e'; exact ⟨_, (hm _).2 (.inl rfl), rfl, rfl⟩
        · rintro ⟨x, hx, h4, rfl⟩
          rcases (hm x).1 hx with rfl | ⟨_, hne⟩
          · rfl
          · exact absurd h4 hne
      · rw [if_neg e', h.rep]
        constructor
        · rintro ⟨x, hx, h4, h5⟩
          refine ⟨x, (hm x).2 (.inr ⟨hx, ?_⟩), h4, h5⟩
          rw [h4]; intro e''; cases e''; exact e' rfl
        · rintro ⟨x, hx, h4, h5⟩
          rcases (hm x).1 hx with rfl | ⟨hx', _⟩
          · cases h4; exact absurd rfl e'
          · exact ⟨x, hx', h4, h5⟩

/-- delete(m, n) -/
theorem IMap.del {ty : TypeId} (h : IMap q es clk f) (hb : w.heap[r]? = some (.map es clk)) (ht : P.underlying t = some (.map k e)) (hk : P.underlying k = some (.int q)) (n : Int) :
    ∃ es', (Builtin.delete_ #[t, k] ty #[.map (some r), .int q n]).run P w = .ok (.tuple #[]) { w with heap := w.heap.setIfInBounds r (.map es' clk) } ∧
      IMap q es' clk (fun m => if m = n then none else f m) ∧ es'.size + (if (f n).isSome then 1 else 0) = es.size := by
  rcases h.find (P := P) (w := w) hk n with ⟨h0, h1, h2⟩ | ⟨j, e0, h0, h1, h2, h3⟩
  · refine ⟨es, ?_, ⟨h.st, h.keys, ?_⟩, by simp [h0]⟩
    · simp [Builtin.delete_, run_underlying ht, MapKept.run_getObj_map hb, run_checkKey (k := .int q n) hk rfl, h1, MapKept.run_setObj_map _ hb, Result.andThen]
    · intro m u
      by_cases hm : m = n
      · subst hm
        rw [if_pos rfl]
        exact ⟨(fun e' => by cases e'), fun ⟨x, hx, hk', _⟩ => absurd hk' (h2 x hx)⟩
      · rw [if_neg hm, h.rep]
  · have hjl : es.toList[j]? = some e0 := by simpa using h2
    have he0 : e0 ∈ es.toList := List.mem_of_getElem? hjl
    have hj : j < es.toList.length := (List.getElem?_eq_some_iff.1 hjl).1
    have hjs : j < es.size := by simpa using hj
    have hsub : (es.eraseIdxIfInBounds j).toList = es.toList.eraseIdx j := by
      unfold Array.eraseIdxIfInBounds
      rw [dif_pos hjs, Array.toList_eraseIdx]
    have hm : ∀ x, x ∈ es.toList.eraseIdx j ↔ (x ∈ es.toList ∧ x.key ≠ .int q n) := by
      intro x
      rw [List.mem_eraseIdx_iff_getElem?]
      have hpw := List.pairwise_iff_getElem.1 ((stamped_iff es clk).1 h.st).2.2
      have e0j : es.toList[j] = e0 := (List.getElem?_eq_some_iff.1 hjl).2
      constructor
      · rintro ⟨i, hne, hi⟩
        obtain ⟨hi', ex⟩ := List.getElem?_eq_some_iff.1 hi
        refine ⟨List.mem_of_getElem? hi, fun hk' => ?_⟩
        rcases Nat.lt_trichotomy i j with g | g | g
        · exact absurd (by rw [ex, e0j, hk', h3]) (hpw i j hi' hj g)
        · exact hne g
        · exact absurd (by rw [ex, e0j, hk', h3]) (hpw j i hj hi' g)
      · rintro ⟨hx, hne⟩
        obtain ⟨i, hi, rfl⟩ := List.getElem_of_mem hx
        refine ⟨i, ?_, List.getElem?_eq_getElem hi⟩
        rintro rfl
        exact hne (by rw [e0j]; exact h3)
    refine ⟨es.eraseIdxIfInBounds j, ?_, ⟨stamped_erase h.st j, ?_, ?_⟩, ?_⟩
    · simp [Builtin.delete_, run_underlying ht, MapKept.run_getObj_map hb, run_checkKey (k := .int q n) hk rfl, h1, MapKept.run_setObj_map _ hb, Result.andThen]
    · rw [hsub]; intro x hx; exact h.keys x ((hm x).1 hx).1
    · rw [hsub]
      intro m u
      by_cases e' : m = n
      · subst e'
        rw [if_pos rfl]
        exact ⟨(fun e' => by cases e'), fun ⟨x, hx, hk', _⟩ => absurd hk' ((hm x).1 hx).2⟩
      · rw [if_neg e', h.rep]
        constructor
        · rintro ⟨x, hx, h4, h5⟩
          refine ⟨x, (hm x).2 ⟨hx, ?_⟩, h4, h5⟩
          rw [h4]; intro e''; cases e''; exact e' rfl
        · rintro ⟨x, hx, h4, h5⟩
          exact ⟨x, ((hm x).1 hx).1, h4, h5⟩
    · have : (es.eraseIdxIfInBounds j).size = es.size - 1 := by
        unfold Array.eraseIdxIfInBounds
        rw [dif_pos hjs]; simp
      rw [this, h0]
      simp only [Option.isSome_some, if_true]
      omega
end
end Go.Proofs.YtabeljpnmmfpgaaDoor
