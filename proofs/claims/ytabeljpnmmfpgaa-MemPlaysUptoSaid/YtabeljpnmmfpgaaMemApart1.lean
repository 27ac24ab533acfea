/-
  Lists of bytes that were handed out, each in a block of its own: written over, grown, looked at: what each step leaves.
-/
import Derived.Test.YtabeljpnmmfpgaaMemOwn
import Derived.ArgAppend
import Derived.Laws.Cells
namespace Go.Proofs.Ytabeljpnmmfpgaa
open Go.RowKit Go.MapKept
set_option linter.unusedVariables false
set_option linter.unusedSimpArgs false

/-- A byte that counts: (i + d) mod 256. -/
def bt (i d : Nat) : Int := ((i : Int) + d) % 256

/-- Slice v lies at the head of block g, holds xs, and what lies behind it in its room is there. -/
structure Lst (W : World) (v : Value) (g : Nat) (n : Nat) (xs : List Value) : Prop where
  len : xs.length = n
  is : ∃ (c : Nat) (cs : Array Value) (t : TypeId), v = .slice (some ⟨g, 0, none⟩) n c ∧ W.heap[g]? = some (.cells cs t (0, 0)) ∧ n ≤ c ∧ c ≤ cs.size ∧ ∀ (j : Nat) (u : Value), xs[j]? = some u → cs[j]? = some u

theorem Lst.keep {W W' : World} {v : Value} {g n : Nat} {xs : List Value} (h : Lst W v g n xs) (e : W'.heap[g]? = W.heap[g]?) : Lst W' v g n xs := by
  obtain ⟨h1, c, cs, t, h2, h3, h4⟩ := h
  exact ⟨h1, c, cs, t, h2, e.trans h3, h4⟩
theorem Lst.lt {W : World} {v : Value} {g n : Nat} {xs : List Value} (h : Lst W v g n xs) : g < W.heap.size := by
  obtain ⟨h1, c, cs, t, h2, h3, h4⟩ := h
  exact heap_lt h3
theorem Lst.of_own {W : World} {base n : Nat} {e : TypeId} {v : Value} {xs : List Value} (h : W.ownsRow base e 1 v n xs) (hn : 0 < n) : ∃ g, Lst W v g n xs ∧ base ≤ g := by
  have hl := h.1
  rcases h.2 with ⟨_, h0⟩ | ⟨g, cap, cur, rfl, hb, hg, hnc, hcm, hcs, htake⟩
  · omega
  · refine ⟨g, ⟨by omega, cap, cur, e, rfl, hg, hnc, by omega, fun j u hj => ?_⟩, hb⟩
    have hj1 : j < n := by have := (List.getElem?_eq_some_iff.1 hj).1; omega
    rw [← htake, List.getElem?_take] at hj
    split at hj
    · rw [← Array.getElem?_toList]; exact hj
    · cases hj

theorem setCells_one (W : World) (b i : Nat) (u : Value) : W.setCells b i [u] = W.setCell ⟨b, i, none⟩ u := rfl

section
variable {P : Program} {W : World} {ops : Array Oper} {rest : List Oper} {o : Oper} {a : Act} {Q : Exit → Act → World → Prop}

theorem wpList_append_lst (hg : o.guard = none) (s x : Operand) (t e : TypeId) (i : TypeInfo) (z : Value) (hop : o.op = Op.call { callee := Callee.builtin Builtin.append, args := #[s, x], argTypes := #[t, t] })
    (h1 : P.underlying t = some (.slice e)) (h2 : P.info? e = some i) (h3 : i.zero = some z) (h4 : i.size = 1) (h5 : i.bytes = 1) (h6 : z.cells.size = 1)
    (v : Value) (g n : Nat) (xs : List Value) (hs : a.eval s = v) (hL : Lst W v g n xs) (ad c : Nat) (u : Value) (hx : a.eval x = .slice (some ⟨ad, 0, none⟩) 1 c) (hc : W.cell? ⟨ad, 0, none⟩ = some u) (hu : u.oneCell' = true) (hn : n ≤ 1000000000)
    (hK : ∀ (v' : Value) (g' : Nat) (w' : World), Lst w' v' g' (n + 1) (xs ++ [u]) → Upd W w' (fun b => b = g) → (g' = g ∨ W.heap.size ≤ g' ∧ w'.heap[g]? = W.heap[g]?) → wpList P ops Q rest (a.put o.dst v') w') :
    wpList P ops Q (o :: rest) a W := by
  obtain ⟨hl, cap, cs, bt, rfl, hb, hnc, hcs, hx'⟩ := hL
  have addr : ∀ j, (⟨ad, 0, none⟩ : Addr).add j = ⟨ad, 0 + j, none⟩ := fun j => by unfold Addr.add; split <;> simp_all
  refine wpList_append_arg (P := P) W hg s x t hop e i z 1 1 h1 h2 h3 h4 h5 h6 (by decide) g 0 n cap xs hs (by omega) (fun j u hj => by rw [Nat.zero_add, cell_of hb]; exact hx' j u hj)
    ⟨ad, 0, none⟩ 1 c [u] hx rfl (fun j u' hj => ?_) (by simpa using hu) (fun hr j hj => ?_) (by simp only [maxLen]; omega) (by omega) (fun hr => ?_) (fun hgr v' w' ho hw => ?_)
  · have hj0 : j < 1 := by have := (List.getElem?_eq_some_iff.1 hj).1; simpa using this
    obtain rfl : j = 0 := by omega
    simp at hj; subst hj
    rw [addr]; exact hc
  · have hj0 : j = 0 := by simpa using hj
    subst hj0
    rw [cell_of hb]
    refine ⟨?_, free_of hb _⟩
    rw [Array.getElem?_eq_getElem (by omega)]; rfl
  · rw [setCells_one, show 0 + n * 1 = n by omega]
    refine hK _ g _ ⟨by simp [hl], cap, cs.setIfInBounds n u, bt, rfl, heap_set_cell hb n u, hr, by simpa using hcs, fun j u' hj => ?_⟩ ((Upd.refl W (fun b => b = g)).setCell (p := ⟨g, n, none⟩) (fun _ => rfl) _) (.inl rfl)
    rw [Array.getElem?_setIfInBounds]
    by_cases e : n = j
    · subst e
      rw [List.getElem?_append_right (by omega), hl, Nat.sub_self] at hj
      simp at hj; subst hj
      rw [if_pos rfl, if_pos (by omega)]
    · rw [if_neg e]
      have hj1 : j < n := by have := (List.getElem?_eq_some_iff.1 hj).1; simp at this; omega
      rw [List.getElem?_append_left (by omega)] at hj
      exact hx' j u' hj
  · obtain ⟨g', hL', hb'⟩ := Lst.of_own ho (by omega)
    exact hK v' g' w' hL' ((Upd.of_grown hw).mono (fun i hi h => by cases h)) (.inr ⟨hb', hw.block _ (heap_lt hb) (by simp)⟩)
end

/-- The lists as they come in: N of them, in blocks of their own. -/
structure Lists (w : World) (N : Nat) (vs : Nat → Value) (gs ns : Nat → Nat) : Prop where
  own : ∀ i, i < N → ∃ (c : Nat) (cs : Array Value) (t : TypeId), vs i = .slice (some ⟨gs i, 0, none⟩) (ns i) c ∧ w.heap[gs i]? = some (.cells cs t (0, 0)) ∧ ns i ≤ c ∧ c ≤ cs.size
  inj : ∀ i j, i < N → j < N → gs i = gs j → i = j
  small : ∀ i, i < N → ns i ≤ 100000000

/-- One list: its block's head, its room. -/
structure Str1 (w W : World) (v : Value) (g n : Nat) : Prop where
  is : ∃ (c : Nat) (cs : Array Value) (t : TypeId), v = .slice (some ⟨g, 0, none⟩) n c ∧ W.heap[g]? = some (.cells cs t (0, 0)) ∧ n ≤ c ∧ c ≤ cs.size
  new : w.heap.size ≤ g
  small : n ≤ 100000000
theorem Str1.keep {w W W' : World} {v : Value} {g n : Nat} (h : Str1 w W v g n) (e : W'.heap[g]? = W.heap[g]?) : Str1 w W' v g n := by
  obtain ⟨⟨c, cs, t, h1, h2, h3⟩, h4, h5⟩ := h
  exact ⟨⟨c, cs, t, h1, e.trans h2, h3⟩, h4, h5⟩
theorem Str1.lt {w W : World} {v : Value} {g n : Nat} (h : Str1 w W v g n) : g < W.heap.size := by
  obtain ⟨c, cs, t, _, h2, _⟩ := h.is; exact heap_lt h2
theorem Str1.below {w W W' : World} {v : Value} {g n : Nat} (h : Str1 w W v g n) (hb : Below W.heap.size W W') : Str1 w W' v g n := h.keep (hb.block _ h.lt)
theorem Str1.of_own {w W : World} {base n : Nat} {e : TypeId} {g c n' : Nat} {xs : List Value} (h : W.ownsRow base e 1 (.slice (some ⟨g, 0, none⟩) n c) n xs) (hb : w.heap.size ≤ base) (hn : n' ≤ n) (hs : n' ≤ 100000000) : Str1 w W (.slice (some ⟨g, 0, none⟩) n' c) g n' := by
  rcases h.2 with ⟨h0, _⟩ | ⟨q, cap, cur, h0, hq, hh, hnc, _, hcs, _⟩
  · cases h0
  · cases h0; exact ⟨⟨c, cur, e, rfl, hh, by omega, by omega⟩, by omega, hs⟩

/-- What an image hands out lies apart, each list in a block of its own. -/
def Handed (w w' : World) (n : Nat) (dv : Nat → Value) (r s : Value) : Prop :=
  ∃ gs ns : Nat → Nat, Lists w' (n + 2) (fun i => if i < n then dv i else if i = n then r else s) gs ns ∧ ∀ i, i < n + 2 → w.heap.size ≤ gs i
theorem Handed.mk {w w' : World} {n : Nat} {dv : Nat → Value} {r s : Value} {g m : Nat → Nat} {gr mr gb mb : Nat} (hd : ∀ i, i < n → Str1 w w' (dv i) (g i) (m i)) (hr : Str1 w w' r gr mr) (hs : Str1 w w' s gb mb)
    (hi : ∀ i j, i < n → j < n → g i = g j → i = j) (h1 : ∀ i, i < n → g i ≠ gr) (h2 : ∀ i, i < n → g i ≠ gb) (h3 : gr ≠ gb) : Handed w w' n dv r s := by
  refine ⟨fun i => if i < n then g i else if i = n then gr else gb, fun i => if i < n then m i else if i = n then mr else mb, ⟨fun i hlt => ?_, fun i j hi' hj' e => ?_, fun i hlt => ?_⟩, fun i hlt => ?_⟩
  · by_cases e1 : i < n
    · simp only [if_pos e1]; exact (hd i e1).is
    · by_cases e2 : i = n
      · simp only [if_neg e1, if_pos e2]; exact hr.is
      · simp only [if_neg e1, if_neg e2]; exact hs.is
  · by_cases e1 : i < n <;> by_cases e2 : j < n
    · simp only [if_pos e1, if_pos e2] at e; exact hi i j e1 e2 e
    · simp only [if_pos e1, if_neg e2] at e
      split at e
      · exact absurd e (h1 i e1)
      · exact absurd e (h2 i e1)
    · simp only [if_neg e1, if_pos e2] at e
      split at e
      · exact absurd e.symm (h1 j e2)
      · exact absurd e.symm (h2 j e2)
    · simp only [if_neg e1, if_neg e2] at e
      split at e <;> split at e
      · omega
      · exact absurd e h3
      · exact absurd e.symm h3
      · omega
  · by_cases e1 : i < n
    · simp only [if_pos e1]; exact (hd i e1).small
    · by_cases e2 : i = n
      · simp only [if_neg e1, if_pos e2]; exact hr.small
      · simp only [if_neg e1, if_neg e2]; exact hs.small
  · by_cases e1 : i < n
    · simp only [if_pos e1]; exact (hd i e1).new
    · by_cases e2 : i = n
      · simp only [if_neg e1, if_pos e2]; exact hr.new
      · simp only [if_neg e1, if_neg e2]; exact hs.new

/-- The lists' first k are written over, of the next one the first m bytes. -/
structure Wrt (w W : World) (N : Nat) (vs : Nat → Value) (gs ns : Nat → Nat) (k m : Nat) : Prop where
  upd : Upd w W (fun b => ∃ i, i < N ∧ b = gs i)
  lists : Lists W N vs gs ns
  at' : ∀ i, i < N → ∀ j, j < ns i → (i < k ∨ i = k ∧ j < m) → W.cell? ⟨gs i, j, none⟩ = some (.int .u8 (bt i 1))

theorem Wrt.start {w : World} {N : Nat} {vs : Nat → Value} {gs ns : Nat → Nat} (h : Lists w N vs gs ns) : Wrt w w N vs gs ns 0 0 :=
  ⟨Upd.refl w _, h, fun i hi j hj h => by omega⟩
theorem Wrt.round {w W : World} {N : Nat} {vs : Nat → Value} {gs ns : Nat → Nat} {k : Nat} (h : Wrt w W N vs gs ns k (ns k)) : Wrt w W N vs gs ns (k + 1) 0 :=
  ⟨h.upd, h.lists, fun i hi j hj hc => h.at' i hi j hj (if e : i = k then .inr ⟨e, by rw [← e]; exact hj⟩ else .inl (by omega))⟩
theorem Lists.set {W : World} {N : Nat} {vs : Nat → Value} {gs ns : Nat → Nat} (h : Lists W N vs gs ns) (b m : Nat) (u : Value) : Lists (W.setCell ⟨b, m, none⟩ u) N vs gs ns := by
  refine ⟨fun i hi => ?_, h.inj, h.small⟩
  obtain ⟨c, cs, t, h1, h2, h3, h4⟩ := h.own i hi
  by_cases e : gs i = b
  · exact ⟨c, cs.setIfInBounds m u, t, h1, by rw [← e]; exact heap_set_cell h2 _ _, h3, by simpa using h4⟩
  · exact ⟨c, cs, t, h1, by rw [heap_set_far e]; exact h2, h3, h4⟩
theorem Wrt.step {w W : World} {N : Nat} {vs : Nat → Value} {gs ns : Nat → Nat} {k m : Nat} (h : Wrt w W N vs gs ns k m) (hk : k < N) (hm : m < ns k) : Wrt w (W.setCell ⟨gs k, m, none⟩ (.int .u8 (bt k 1))) N vs gs ns k (m + 1) := by
  refine ⟨h.upd.setCell (fun _ => ⟨k, hk, rfl⟩) _, h.lists.set _ _ _, fun i hi j hj hc => ?_⟩
  obtain ⟨c, cs, t, h1, h2, h3, h4⟩ := h.lists.own i hi
  by_cases e : i = k
  · subst e
    rw [cell_of (heap_set_cell h2 m _), Array.getElem?_setIfInBounds]
    by_cases e2 : m = j
    · subst e2
      rw [if_pos rfl, if_pos (by omega)]
    · rw [if_neg e2, ← cell_of h2]
      exact h.at' i hi j hj (by omega)
  · have hne : gs i ≠ gs k := fun e' => e (h.lists.inj i k hi hk e')
    rw [World.cell?_of_block (heap_set_far hne)]
    exact h.at' i hi j hj (by omega)

/-- What the k-th list is like when it has been looked at for the last time. -/
def longCells (ns : Nat → Nat) (k : Nat) : List Value := List.replicate (ns k) (.int .u8 (bt k 1)) ++ List.replicate 80 (.int .u8 (bt k 101))

/-- The first k lists have grown. -/
structure Grw (w W : World) (N : Nat) (vs : Nat → Value) (gs ns : Nat → Nat) (k : Nat) (lv : Value) (us : Nat → Value) (hs : Nat → Nat) : Prop where
  upd : Upd w W (fun b => ∃ i, i < N ∧ b = gs i)
  row : W.ownsRow w.heap.size 35 1 lv k ((List.range k).map us)
  lists : ∀ i, i < N → k ≤ i → ∃ (c : Nat) (cs : Array Value) (t : TypeId), vs i = .slice (some ⟨gs i, 0, none⟩) (ns i) c ∧ W.heap[gs i]? = some (.cells cs t (0, 0)) ∧ ns i ≤ c ∧ c ≤ cs.size
  at' : ∀ i, i < N → ∀ j, j < ns i → W.cell? ⟨gs i, j, none⟩ = some (.int .u8 (bt i 1))
  done : ∀ i, i < k → Lst W (us i) (hs i) (ns i + 80) (longCells ns i) ∧ ((hs i = gs i) ∨ w.heap.size ≤ hs i)
  free : ∀ i, i < k → ∀ b, lv.ownBlock = some b → hs i ≠ b

theorem Grw.start {w W : World} {N : Nat} {vs : Nat → Value} {gs ns : Nat → Nat} (h : Wrt w W N vs gs ns N 0) : Grw w W N vs gs ns 0 (.slice none 0 0) (fun _ => undef) (fun _ => 0) :=
  ⟨h.upd, World.ownsRow_nil _ _ _ _, fun i hi _ => h.lists.own i hi, fun i hi j hj => h.at' i hi j hj (.inl hi), fun i hi => by omega, fun i hi => by omega⟩

/-- The k-th list is growing: m bytes have come. wk: the world ahead of it. -/
structure Gro (wk W : World) (gs ns : Nat → Nat) (k m : Nat) (x : Value) : Prop where
  upd : Upd wk W (fun b => b = gs k)
  x : ∃ g, Lst W x g (ns k + m) (List.replicate (ns k) (.int .u8 (bt k 1)) ++ List.replicate m (.int .u8 (bt k 101))) ∧ (g = gs k ∨ wk.heap.size ≤ g)
  old : ∃ (cs : Array Value) (t : TypeId), W.heap[gs k]? = some (.cells cs t (0, 0)) ∧ ∀ j, j < ns k → cs[j]? = some (.int .u8 (bt k 1))

theorem Gro.start {w W : World} {N : Nat} {vs : Nat → Value} {gs ns : Nat → Nat} {k : Nat} {lv : Value} {us : Nat → Value} {hs : Nat → Nat} (h : Grw w W N vs gs ns k lv us hs) (hk : k < N) : Gro W W gs ns k 0 (vs k) := by
  obtain ⟨c, cs, t, h1, h2, h3, h4⟩ := h.lists k hk (Nat.le_refl _)
  have hc : ∀ j, j < ns k → cs[j]? = some (.int .u8 (bt k 1)) := fun j hj => by rw [← cell_of h2]; exact h.at' k hk j hj
  refine ⟨Upd.refl W _, ⟨gs k, ⟨by simp, c, cs, t, h1, h2, h3, h4, fun j u hj => ?_⟩, .inl rfl⟩, cs, t, h2, hc⟩
  simp only [List.replicate_zero, List.append_nil] at hj
  have hjl : j < ns k := by have := (List.getElem?_eq_some_iff.1 hj).1; simpa using this
  rw [List.getElem?_replicate, if_pos hjl] at hj
  rw [← hj]; exact hc j hjl

theorem Gro.step {wk W w' : World} {gs ns : Nat → Nat} {k m : Nat} {x v' : Value} {g g' : Nat} {X : Array Value} {t : TypeId} (h : Gro wk W gs ns k m x)
    (hL : Lst W x g (ns k + m) (List.replicate (ns k) (.int .u8 (bt k 1)) ++ List.replicate m (.int .u8 (bt k 101)))) (hgk : g = gs k ∨ wk.heap.size ≤ g) (hgl : gs k < wk.heap.size)
    (hL' : Lst w' v' g' (ns k + m + 1) ((List.replicate (ns k) (.int .u8 (bt k 1)) ++ List.replicate m (.int .u8 (bt k 101))) ++ [.int .u8 (bt k 101)])) (hu : Upd (W.alloc (.cells X t)) w' (fun b => b = g))
    (hg : g' = g ∨ (W.alloc (.cells X t)).heap.size ≤ g' ∧ w'.heap[g]? = (W.alloc (.cells X t)).heap[g]?) : Gro wk w' gs ns k (m + 1) v' := by
  have hsz := h.upd.size
  have hgW := hL.lt
  have e1 : (List.replicate (ns k) (.int .u8 (bt k 1)) ++ List.replicate m (.int .u8 (bt k 101))) ++ [.int .u8 (bt k 101)] = List.replicate (ns k) (.int .u8 (bt k 1)) ++ List.replicate (m + 1) (Value.int .u8 (bt k 101)) := by
    rw [List.append_assoc, List.replicate_succ']
  rw [e1] at hL'
  have hux : Upd wk w' (fun b => b = gs k) := by
    refine ⟨hu.os.trans h.upd.os, hu.tape.trans h.upd.tape, hu.output.trans h.upd.output, ?_, fun i hi hne => ?_⟩
    · have := hu.size; simp at this; omega
    · have hig : i ≠ g := fun e => hgk.elim (fun e2 => hne (e.trans e2)) (fun e2 => by omega)
      rw [hu.block i (by simp; omega) hig, Below.heap_alloc _ _ _ (by omega)]
      exact h.upd.block i hi hne
  obtain ⟨cs, t', o1, o2⟩ := h.old
  refine ⟨hux, ⟨g', hL', ?_⟩, ?_⟩
  · rcases hg with rfl | ⟨hg1, _⟩
    · exact hgk
    · right; simp at hg1; omega
  · by_cases e : gs k = g
    · rcases hg with rfl | ⟨_, hg2⟩
      · obtain ⟨_, c2, cs2, t2, _, q2, q3, q4, q5⟩ := hL'
        refine ⟨cs2, t2, by rw [e]; exact q2, fun j hj => q5 j _ ?_⟩
        rw [List.getElem?_append_left (by simpa using hj), List.getElem?_replicate, if_pos hj]
      · exact ⟨cs, t', by rw [e, hg2, Below.heap_alloc _ _ _ hgW, ← e]; exact o1, o2⟩
    · exact ⟨cs, t', by rw [hu.block _ (by simp; omega) e, Below.heap_alloc _ _ _ (by omega)]; exact o1, o2⟩

/-- The k-th list has grown and is laid to the others. -/
theorem Grw.step {w wk W w' : World} {N : Nat} {vs : Nat → Value} {gs ns : Nat → Nat} {k : Nat} {lv lv' x : Value} {us : Nat → Value} {hs : Nat → Nat} {X : Array Value} {t : TypeId} (h : Grw w wk N vs gs ns k lv us hs) (hk : k < N) (hgs : ∀ i, i < N → gs i < w.heap.size) (hinj : ∀ i j, i < N → j < N → gs i = gs j → i = j)
    (hG : Gro wk W gs ns k 80 x) (hrow : w'.ownsRow w.heap.size 35 1 lv' (k + 1) ((List.range k).map us ++ [x])) (hgr : (W.alloc (.cells X t)).grownBy w' lv.ownBlock) (hat : lv'.ownBlock = lv.ownBlock ∨ lv'.ownBlock = some (W.alloc (.cells X t)).heap.size) (hty : ∀ b, lv.ownBlock = some b → b ≠ gs k ∧ w.heap.size ≤ b) :
    ∃ us' hs', Grw w w' N vs gs ns (k + 1) lv' us' hs' := by
  obtain ⟨g, hL, hgk⟩ := hG.x
  have s1 := h.upd.size
  have s2 := hG.upd.size
  have s3 := hgr.size
  simp at s3
  have rowlt := fun b hb => (h.row.lt b hb).2
  have big : ∀ i, i < wk.heap.size → i ≠ gs k → some i ≠ lv.ownBlock → w'.heap[i]? = wk.heap[i]? := fun i hi h1 h2 => by
    rw [hgr.block i (by simp; omega) h2, Below.heap_alloc _ _ _ (by omega)]
    exact hG.upd.block i hi h1
  have old : ∀ i, i < N → some (gs i) ≠ lv.ownBlock := fun i hi e => by have := (hty (gs i) e.symm).2; have := hgs i hi; omega
  have gne : some g ≠ lv.ownBlock := fun e => by
    rcases hgk with e2 | e2
    · exact (hty g e.symm).1 e2
    · have := rowlt g e.symm; omega
  have bigk : w'.heap[gs k]? = W.heap[gs k]? := by
    rw [hgr.block _ (by have := hgs k hk; simp; omega) (old k hk), Below.heap_alloc _ _ _ (by have := hgs k hk; omega)]
  refine ⟨fun i => if i = k then x else us i, fun i => if i = k then g else hs i, ⟨⟨?_, ?_, ?_, ?_, ?_⟩, ?_, ?_, ?_, ?_, ?_⟩⟩
  · exact hgr.os.trans (hG.upd.os.trans h.upd.os)
  · exact hgr.tape.trans (hG.upd.tape.trans h.upd.tape)
  · exact hgr.output.trans (hG.upd.output.trans h.upd.output)
  · omega
  · intro i hi hne
    rw [big i (by omega) (fun e => hne ⟨k, hk, e⟩) (fun e => by have := (hty i e.symm).2; omega)]
    exact h.upd.block i hi hne
  · rw [List.range_succ, List.map_append]
    have : (List.range k).map (fun i => if i = k then x else us i) = (List.range k).map us := List.map_congr_left (fun i hi => by rw [if_neg (by have := List.mem_range.1 hi; omega)])
    rw [this]
    simpa using hrow
  · intro i hi hki
    obtain ⟨c, cs, t, q1, q2, q3⟩ := h.lists i hi (by omega)
    refine ⟨c, cs, t, q1, ?_, q3⟩
    rw [big _ (heap_lt q2) (fun e => by have := hinj i k hi hk e; omega) (old i hi)]; exact q2
  · intro i hi j hj
    by_cases e : i = k
    · subst e
      obtain ⟨cs, t', o1, o2⟩ := hG.old
      rw [cell_of (bigk.trans o1)]; exact o2 j hj
    · rw [World.cell?_of_block (big (gs i) (by have := hgs i hi; omega) (fun e' => e (hinj i k hi hk e')) (old i hi))]
      exact h.at' i hi j hj
  · intro i hi
    by_cases e : i = k
    · subst e
      simp only [if_true]
      refine ⟨(hL.keep (W' := w') ?_), ?_⟩
      · rw [hgr.block _ (by have := hL.lt; simp; omega) gne, Below.heap_alloc _ _ _ hL.lt]
      · rcases hgk with e2 | e2
        · exact .inl e2
        · exact .inr (by omega)
    · simp only [if_neg e]
      obtain ⟨d1, d2⟩ := h.done i (by omega)
      refine ⟨d1.keep (big _ d1.lt ?_ (fun e' => h.free i (by omega) _ e'.symm rfl)), d2⟩
      rcases d2 with d2 | d2
      · rw [d2]; exact fun e' => e (hinj i k (by omega) hk e')
      · have := hgs k hk; omega
  · intro i hi b hb
    by_cases e : i = k
    · subst e
      simp only [if_true]
      rcases hat with e2 | e2
      · rw [e2] at hb; exact fun e' => gne (by rw [e', hb])
      · rw [e2] at hb; cases hb; have := hL.lt; simp; omega
    · simp only [if_neg e]
      obtain ⟨d1, d2⟩ := h.done i (by omega)
      rcases hat with e2 | e2
      · rw [e2] at hb; exact h.free i (by omega) b hb
      · rw [e2] at hb; cases hb; have := d1.lt; simp; omega
end Go.Proofs.Ytabeljpnmmfpgaa
