/-
  own, ownBanks, MayBanks, may, plain of the law's text.
-/
import Derived.Test.YtabeljpnmmfpgaaMemAwake
import Derived.Test.YtabeljpnmmfpgaaConv
namespace Go.Proofs.Ytabeljpnmmfpgaa
open Go.RowKit Go.MapKept
set_option linter.unusedVariables false
set_option linter.unusedSimpArgs false

theorem infoU8 : (Try.prog.info? 5).map (fun i => (i.zero, i.size, i.bytes)) = some (some (.int .u8 0), 1, 1) := by kernel_rfl
theorem infoBank : (Try.prog.info? 37).map (fun i => (i.zero, i.size, i.bytes)) = some (some (.agg #[.int .i64 0, .slice none 0 0]), 2, 32) := by kernel_rfl

def byteCells (l : List Int) : List Value := l.map (Value.int .u8)
theorem byteCells_length (l : List Int) : (byteCells l).length = l.length * 1 := by simp [byteCells]
theorem byteCells_one (l : List Int) : ∀ u ∈ byteCells l, u.oneCell' = true := by
  intro u hu; obtain ⟨x, _, rfl⟩ := List.mem_map.1 hu; rfl
theorem byteCells_at {l : List Int} {j : Nat} {u : Value} (h : (byteCells l)[j]? = some u) : j < l.length ∧ u = .int .u8 (l.getD j 0) := by
  unfold byteCells at h
  rw [List.getElem?_map] at h
  obtain ⟨x, hx, rfl⟩ := Option.map_eq_some_iff.1 h
  obtain ⟨h1, h2⟩ := List.getElem?_eq_some_iff.1 hx
  exact ⟨h1, by rw [List.getD_eq_getElem?_getD, hx]; rfl⟩

/-- A row of bytes that is owned is bytes that come in. -/
theorem BytesIn.of_own {w : World} {base : Nat} {v : Value} {n : Nat} {l : List Int} (hn : n = l.length) (h : w.ownsRow base 5 1 v n (byteCells l)) : BytesIn w v l := by
  subst hn
  rcases h.2 with ⟨rfl, h0⟩ | ⟨g, cap, cur, rfl, hg, hh, _, _, _, hc⟩
  · have : l = [] := List.eq_nil_of_length_eq_zero h0
    subst this
    exact ⟨_, _, rfl, fun _ => rfl, fun h => absurd h (by decide)⟩
  · refine ⟨_, _, rfl, (fun e => by cases e), fun _ => ⟨g, 0, rfl, fun j hj => ?_⟩⟩
    rw [Nat.zero_add, cell_of hh, ← Array.getElem?_toList]
    have : (byteCells l)[j]? = some (.int .u8 (l.getD j 0)) := by
      unfold byteCells
      rw [List.getElem?_map, List.getD_eq_getElem?_getD, List.getElem?_eq_getElem hj]; rfl
    rw [← hc, List.getElem?_take] at this
    split at this
    · exact this
    · cases this

set_option maxRecDepth 100000 in
theorem own_any (w : World) (v : Value) (l : List Int) (hl : l.length ≤ 140737488355328) (hb : BytesIn w v l) :
    Calls Try.prog 37 #[v] w fun e w' => ∃ g cap, e = .returned (.slice (some ⟨g, 0, none⟩) l.length cap) ∧ w'.ownsRow w.heap.size 5 1 (.slice (some ⟨g, 0, none⟩) l.length cap) l.length (byteCells l) ∧ Below w.heap.size w w' := by
  obtain ⟨i0, hi, hz0, hz1, hz2⟩ := info_parts infoU8
  have own0 : Hid ((w.alloc (.cells #[] 5)).ownsRow w.heap.size 5 1 (.slice (some ⟨w.heap.size, 0, none⟩) 0 0) 0 []) := World.ownsRow_made _ _ 0 (Nat.le_refl _) (by simp [maxLen]) (by simp)
  obtain ⟨a, c, rfl, hcn, h2⟩ := hb
  cases a with
  | none =>
    have hl0 : l = [] := by
      cases l with
      | nil => rfl
      | cons x r => obtain ⟨_, _, h3, _⟩ := h2 (by simp); cases h3
    subst hl0
    obtain rfl := hcn rfl
    have fin : Hid (w.alloc (.cells #[] 5) |>.ownsRow w.heap.size 5 1 (.slice (some ⟨w.heap.size, 0, none⟩) ([] : List Int).length 0) ([] : List Int).length (byteCells [])) := own0.out
    go_enter Try.func37, Try.ntmps37
    go_wp2_with (at_builtin; refine wpList_append_own_none rfl _ _ 35 rfl w.heap.size 5 i0 1 Try.underlying35 hi _ 0 [] rfl own0.out rfl ?_)
    go_ret
    exact ⟨_, _, rfl, fin.out, (Below.refl _ _).alloc (Nat.le_refl _) _⟩
  | some ad =>
    have Hn : Hid (∀ j u, (byteCells l)[j]? = some u → (w.alloc (.cells #[] 5)).cell? (ad.add j) = some u) := by
      intro j u hj
      obtain ⟨h1, rfl⟩ := byteCells_at hj
      obtain ⟨b, o, h3, h4⟩ := h2 (by omega)
      cases h3
      rw [addr_add]
      have := h4 j h1
      exact cell_keep (B := w.heap.size) ((Below.refl _ _).alloc (Nat.le_refl _) _) this (World.block_lt_of_cell? w _ this)
    have H1 := Lib.hid (byteCells_one l)
    have HL := Lib.hid (byteCells_length l)
    have fin : Hid (∀ (v' : Value) (w1 : World), w1.ownsRow w.heap.size 5 1 v' (0 + l.length) ([] ++ byteCells l) → (w.alloc (.cells #[] 5)).grownBy w1 (some w.heap.size) → (v' = .slice none 0 0 ↔ Value.slice (some ⟨w.heap.size, 0, none⟩) 0 0 = .slice none 0 0 ∧ l.length = 0) →
        ∃ g cap, v' = .slice (some ⟨g, 0, none⟩) l.length cap ∧ w1.ownsRow w.heap.size 5 1 (.slice (some ⟨g, 0, none⟩) l.length cap) l.length (byteCells l) ∧ Below w.heap.size w w1) := by
      intro v' w1 h1 hg hnil
      rw [Nat.zero_add, List.nil_append] at h1
      rcases h1.2 with ⟨e, _⟩ | ⟨g, cap, cur, rfl, r⟩
      · have := hnil.1 e; cases this.1
      · exact ⟨g, cap, rfl, h1, ((Below.refl _ _).alloc (Nat.le_refl _) _).grown hg (by simp) (fun k hk => by cases hk; exact Nat.le_refl _)⟩
    clear h2
    go_enter Try.func37, Try.ntmps37
    go_wp2_with (at_builtin; refine wpList_append_own _ rfl _ _ 35 rfl w.heap.size 5 i0 _ 1 1 Try.underlying35 hi hz0 hz1 hz2 rfl (by decide) _ 0 [] rfl own0.out ad l.length c (byteCells l) rfl HL.out Hn.out H1.out (by simp only [maxLen]; omega) (by omega) (by simp) ?_; intro v' w1 ho hgr hnil; obtain ⟨g, cap, f0, f1, f2⟩ := fin.out v' w1 ho hgr hnil; clear ho hgr hnil)
    go_ret
    exact ⟨g, cap, rfl, f1, f2⟩

/-! ### ownBanks -/
def bankSl (l : List (Int × List Int)) (g c : Nat → Nat) (i : Nat) : Value := .slice (some ⟨g i, 0, none⟩) (l.getD i (0, [])).2.length (c i)
def bankCells (l : List (Int × List Int)) (g c : Nat → Nat) : Nat → List Value
  | 0 => []
  | k + 1 => bankCells l g c k ++ [.int .i64 (l.getD k (0, [])).1, bankSl l g c k]
theorem bankCells_length (l : List (Int × List Int)) (g c : Nat → Nat) : ∀ k, (bankCells l g c k).length = k * 2
  | 0 => rfl
  | k + 1 => by rw [bankCells, List.length_append, bankCells_length l g c k]; simp; omega
theorem bankCells_at (l : List (Int × List Int)) (g c : Nat → Nat) : ∀ k i, i < k → (bankCells l g c k)[i * 2]? = some (.int .i64 (l.getD i (0, [])).1) ∧ (bankCells l g c k)[i * 2 + 1]? = some (bankSl l g c i)
  | 0, i, h => by omega
  | k + 1, i, h => by
    have hl := bankCells_length l g c k
    unfold bankCells
    by_cases e : i = k
    · subst e
      rw [List.getElem?_append_right (by omega), List.getElem?_append_right (by omega), hl, Nat.sub_self, show i * 2 + 1 - i * 2 = 1 by omega]
      exact ⟨rfl, rfl⟩
    · rw [List.getElem?_append_left (by omega), List.getElem?_append_left (by omega)]
      exact bankCells_at l g c k i (by omega)
theorem bankCells_congr (l : List (Int × List Int)) {g c g' c' : Nat → Nat} : ∀ {k}, (∀ i, i < k → g' i = g i ∧ c' i = c i) → bankCells l g' c' k = bankCells l g c k
  | 0, _ => rfl
  | k + 1, h => by
    unfold bankCells
    rw [bankCells_congr l (fun i hi => h i (by omega)), bankSl, bankSl, (h k (by omega)).1, (h k (by omega)).2]

/-- The first k banks are in lists of their own, with 90 behind each. -/
structure OwnRel (w wr : World) (l : List (Int × List Int)) (k : Nat) (v : Value) (g c : Nat → Nat) : Prop where
  below : Below w.heap.size w wr
  row : wr.ownsRow w.heap.size 37 2 v k (bankCells l g c k)
  data : ∀ i, i < k → wr.ownsRow w.heap.size 5 1 (.slice (some ⟨g i, 0, none⟩) ((l.getD i (0, [])).2.length + 1) (c i)) ((l.getD i (0, [])).2.length + 1) (byteCells (l.getD i (0, [])).2 ++ [.int .u8 90])
  inj : ∀ i j, i < k → j < k → g i = g j → i = j

theorem ownBlock_lt {w : World} {base : Nat} {e : TypeId} {size n : Nat} {v : Value} {xs : List Value} (h : w.ownsRow base e size v n xs) {b : Nat} (hb : v.ownBlock = some b) : b < w.heap.size := (h.lt b hb).2

theorem OwnRel.step {w wr w2 w3 : World} {l : List (Int × List Int)} {k : Nat} {v v' : Value} {g c : Nat → Nat} {g' c' : Nat} {X Y : Array Value} (h : OwnRel w wr l k v g c)
    (h2 : Below (wr.heap.size + 1) (wr.alloc (.cells X 37)) w2)
    (hd : w2.ownsRow (wr.heap.size + 1) 5 1 (.slice (some ⟨g', 0, none⟩) ((l.getD k (0, [])).2.length + 1) c') ((l.getD k (0, [])).2.length + 1) (byteCells (l.getD k (0, [])).2 ++ [.int .u8 90]))
    (h3 : (w2.alloc (.cells Y 37)).drew.grownBy w3 v.ownBlock) (hv' : w3.ownsRow w.heap.size 37 2 v' (k + 1) (bankCells l g c k ++ [.int .i64 (l.getD k (0, [])).1, .slice (some ⟨g', 0, none⟩) (l.getD k (0, [])).2.length c'])) :
    OwnRel w w3 l (k + 1) v' (fun i => if i = k then g' else g i) (fun i => if i = k then c' else c i) := by
  have hsz := h.below.size
  have hsz2 : wr.heap.size + 1 ≤ w2.heap.size := by have := h2.size; simpa using this
  have hb2 : Below w.heap.size w w2 := (h.below.alloc hsz _).trans (h2.mono (by omega))
  have old : ∀ i, i < wr.heap.size → w2.heap[i]? = wr.heap[i]? := fun i hi => by
    rw [h2.block i (by omega)]; exact Below.heap_alloc _ _ _ hi
  have old3 : ∀ i, i < w2.heap.size → some i ≠ v.ownBlock → w3.heap[i]? = w2.heap[i]? := fun i hi hne => by
    rw [h3.block i (by simp; omega) hne]; exact Below.heap_alloc _ _ _ hi
  have hvb : ∀ b, v.ownBlock = some b → b < wr.heap.size := fun b hb => ownBlock_lt h.row hb
  have vne : ∀ {b : Nat} {cs : Array Value}, wr.heap[b]? = some (.cells cs 5 (0, 0)) → some b ≠ v.ownBlock := by
    intro b cs hb e
    rcases h.row.2 with ⟨rfl, _⟩ | ⟨q, cap, cur, rfl, _, hh, _⟩
    · simp [Value.ownBlock] at e
    · simp only [Value.ownBlock, Option.some.injEq] at e
      subst e
      rw [hh] at hb
      exact cells_ne (by decide) (Option.some.inj hb)
  have hgk : wr.heap.size + 1 ≤ g' ∧ g' < w2.heap.size := by
    have := hd.lt g' rfl
    exact this
  refine ⟨?_, ?_, ?_, ?_⟩
  · refine hb2.trans ((Below.refl w2.heap.size w2).alloc (Nat.le_refl _) (.cells Y 37) |>.drew |>.mono hb2.size |>.trans ?_)
    exact ⟨h3.os, h3.tape, h3.output, h3.size, fun i hi => h3.block i (by have := hb2.size; simp; omega) (fun e => by
      have := (h.row.lt i e.symm).1; omega)⟩
  · rw [bankCells, bankCells_congr l (g := g) (c := c) (fun i hi => by rw [if_neg (by omega), if_neg (by omega)]; exact ⟨rfl, rfl⟩)]
    rw [bankSl, if_pos rfl, if_pos rfl]
    exact hv'
  · intro i hi
    by_cases e : i = k
    · subst e
      rw [if_pos rfl, if_pos rfl]
      refine ownsRow_heap (w := w2) ?_ (fun b hb => ?_)
      · obtain ⟨q1, q2⟩ := hd
        refine ⟨q1, ?_⟩
        rcases q2 with q2 | ⟨a1, a2, a3, a4, a5, a6⟩
        · exact .inl q2
        · exact .inr ⟨a1, a2, a3, a4, by omega, a6⟩
      · simp only [Value.ownBlock, Option.some.injEq] at hb
        subst hb
        exact old3 _ hgk.2 (fun e => by have := hvb _ e.symm; omega)
    · rw [if_neg e, if_neg e]
      have hdi := h.data i (by omega)
      refine ownsRow_heap hdi (fun b hb => ?_)
      have hbl := ownBlock_lt hdi hb
      simp only [Value.ownBlock, Option.some.injEq] at hb
      subst hb
      rcases hdi.2 with ⟨e', _⟩ | ⟨q, cap, cur, e', _, hh, _⟩
      · cases e'
      · cases e'
        rw [old3 _ (by omega) (vne hh), old _ hbl]
  · intro i j hi hj e
    by_cases ei : i = k
    · by_cases ej : j = k
      · rw [ei, ej]
      · rw [if_pos ei, if_neg ej] at e
        have : g j < wr.heap.size := ownBlock_lt (h.data j (by omega)) rfl
        omega
    · by_cases ej : j = k
      · rw [if_neg ei, if_pos ej] at e
        have : g i < wr.heap.size := ownBlock_lt (h.data i (by omega)) rfl
        omega
      · rw [if_neg ei, if_neg ej] at e
        exact h.inj i j (by omega) (by omega) e

theorem OwnRel.banks {w wr : World} {l : List (Int × List Int)} {v : Value} {g c : Nat → Nat} (h : OwnRel w wr l l.length v g c) (hB : ∀ i, i < l.length → IsBytes (l.getD i (0, [])).2) : BanksIn wr v l (bankSl l g c) := by
  refine ⟨?_, ?_, hB⟩
  · rcases h.row.2 with ⟨rfl, h0⟩ | ⟨q, cap, cur, rfl, _, hh, _, _, _, hc⟩
    · rw [h0]; exact ⟨_, _, rfl, fun h => absurd h (by decide)⟩
    · refine ⟨_, _, rfl, fun _ => ⟨q, 0, rfl, fun i hi => ?_⟩⟩
      have hget : ∀ j u, (bankCells l g c l.length)[j]? = some u → wr.cell? ⟨q, 0 + j, none⟩ = some u := by
        intro j u hj
        rw [Nat.zero_add, cell_of hh, ← Array.getElem?_toList]
        rw [← hc, List.getElem?_take] at hj
        split at hj
        · exact hj
        · cases hj
      obtain ⟨a1, a2⟩ := bankCells_at l g c _ i hi
      exact ⟨hget _ _ a1, by have := hget _ _ a2; rw [← Nat.add_assoc] at this; exact this⟩
  · intro i hi
    have hd := h.data i hi
    refine ⟨_, _, rfl, (fun e => by cases e), fun _ => ⟨g i, 0, rfl, fun j hj => ?_⟩⟩
    rcases hd.2 with ⟨e', _⟩ | ⟨q, cap, cur, e', _, hh, _, _, _, hc⟩
    · cases e'
    · cases e'
      rw [Nat.zero_add, cell_of hh, ← Array.getElem?_toList]
      have : (byteCells (l.getD i (0, [])).2 ++ [Value.int .u8 90])[j]? = some (.int .u8 ((l.getD i (0, [])).2.getD j 0)) := by
        rw [List.getElem?_append_left (by simpa [byteCells] using hj)]
        unfold byteCells
        rw [List.getElem?_map, List.getElem?_eq_getElem hj, List.getD_eq_getElem?_getD (l := (l.getD i (0, [])).2), List.getElem?_eq_getElem hj]; rfl
      rw [← hc, List.getElem?_take] at this
      split at this
      · exact this
      · cases this
end Go.Proofs.Ytabeljpnmmfpgaa
