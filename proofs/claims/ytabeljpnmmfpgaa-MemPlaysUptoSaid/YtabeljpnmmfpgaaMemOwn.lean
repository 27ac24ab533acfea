/-
  own, ownBanks, MayBanks, may, plain of the law's text.
  ownBanks, walked; MayBanks, may, plain.
  SameBanks, SameImage at lists that read alike; image.
-/
import Derived.Test.YtabeljpnmmfpgaaMemAwake
import Derived.Test.YtabeljpnmmfpgaaConv
namespace Go.Proofs.Ytabeljpnmmfpgaa
open Go.RowKit Go.MapKept
set_option linter.unusedVariables false
set_option linter.unusedSimpArgs false

theorem infoU8 : (Try.prog.info? 5).map (fun i => (i.zero, i.size, i.bytes)) = some (some (.int .u8 0), 1, 1) := by kernel_rfl
theorem infoBank : (Try.prog.info? 37).map (fun i => (i.zero, i.size, i.bytes)) = some (some (.agg #[.int .i64 0, .slice none 0 0]), 2, 32) := by kernel_rfl

def byteCells (l : List Int) : List Value := l.map (Value.int .u8)
theorem byteCells_length (l : List Int) : (byteCells l).length = l.length * 1 := by simp [byteCells]
theorem byteCells_one (l : List Int) : ∀ u ∈ byteCells l, u.oneCell' = true := by
  intro u hu; obtain ⟨x, _, rfl⟩ := List.mem_map.1 hu; rfl
theorem byteCells_at {l : List Int} {j : Nat} {u : Value} (h : (byteCells l)[j]? = some u) : j < l.length ∧ u = .int .u8 (l.getD j 0) := by
  unfold byteCells at h
  rw [List.getElem?_map] at h
  obtain ⟨x, hx, rfl⟩ := Option.map_eq_some_iff.1 h
  obtain ⟨h1, h2⟩ := List.getElem?_eq_some_iff.1 hx
  exact ⟨h1, by rw [List.getD_eq_getElem?_getD, hx]; rfl⟩

/-- A row of bytes that is owned is bytes that come in. -/
theorem BytesIn.of_own {w : World} {base : Nat} {v : Value} {n : Nat} {l : List Int} (hn : n = l.length) (h : w.ownsRow base 5 1 v n (byteCells l)) : BytesIn w v l := by
  subst hn
  rcases h.2 with ⟨rfl, h0⟩ | ⟨g, cap, cur, rfl, hg, hh, _, _, _, hc⟩
  · have : l = [] := List.eq_nil_of_length_eq_zero h0
    subst this
    exact ⟨_, _, rfl, fun _ => rfl, fun h => absurd h (by decide)⟩
  · refine ⟨_, _, rfl, (fun e => by cases e), fun _ => ⟨g, 0, rfl, fun j hj => ?_⟩⟩
    rw [Nat.zero_add, cell_of hh, ← Array.getElem?_toList]
    have : (byteCells l)[j]? = some (.int .u8 (l.getD j 0)) := by
      unfold byteCells
      rw [List.getElem?_map, List.getD_eq_getElem?_getD, List.getElem?_eq_getElem hj]; rfl
    rw [← hc, List.getElem?_take] at this
    split at this
    · exact this
    · cases this

set_option maxRecDepth 100000 in
theorem own_any (w : World) (v : Value) (l : List Int) (hl : l.length ≤ 140737488355328) (hb : BytesIn w v l) :
    Calls Try.prog 37 #[v] w fun e w' => ∃ g cap, e = .returned (.slice (some ⟨g, 0, none⟩) l.length cap) ∧ w'.ownsRow w.heap.size 5 1 (.slice (some ⟨g, 0, none⟩) l.length cap) l.length (byteCells l) ∧ Below w.heap.size w w' := by
  obtain ⟨i0, hi, hz0, hz1, hz2⟩ := info_parts infoU8
  have own0 : Hid ((w.alloc (.cells #[] 5)).ownsRow w.heap.size 5 1 (.slice (some ⟨w.heap.size, 0, none⟩) 0 0) 0 []) := World.ownsRow_made _ _ 0 (Nat.le_refl _) (by simp [maxLen]) (by simp)
  obtain ⟨a, c, rfl, hcn, h2⟩ := hb
  cases a with
  | none =>
    have hl0 : l = [] := by
      cases l with
      | nil => rfl
      | cons x r => obtain ⟨_, _, h3, _⟩ := h2 (by simp); cases h3
    subst hl0
    obtain rfl := hcn rfl
    have fin : Hid (w.alloc (.cells #[] 5) |>.ownsRow w.heap.size 5 1 (.slice (some ⟨w.heap.size, 0, none⟩) ([] : List Int).length 0) ([] : List Int).length (byteCells [])) := own0.out
    go_enter Try.func37, Try.ntmps37
    go_wp2_with (at_builtin; refine wpList_append_own_none rfl _ _ 35 rfl w.heap.size 5 i0 1 Try.underlying35 hi _ 0 [] rfl own0.out rfl ?_)
    go_ret
    exact ⟨_, _, rfl, fin.out, (Below.refl _ _).alloc (Nat.le_refl _) _⟩
  | some ad =>
    have Hn : Hid (∀ j u, (byteCells l)[j]? = some u → (w.alloc (.cells #[] 5)).cell? (ad.add j) = some u) := by
      intro j u hj
      obtain ⟨h1, rfl⟩ := byteCells_at hj
      obtain ⟨b, o, h3, h4⟩ := h2 (by omega)
      cases h3
      rw [addr_add]
      have := h4 j h1
      exact cell_keep (B := w.heap.size) ((Below.refl _ _).alloc (Nat.le_refl _) _) this (World.block_lt_of_cell? w _ this)
    have H1 := Lib.hid (byteCells_one l)
    have HL := Lib.hid (byteCells_length l)
    have fin : Hid (∀ (v' : Value) (w1 : World), w1.ownsRow w.heap.size 5 1 v' (0 + l.length) ([] ++ byteCells l) → (w.alloc (.cells #[] 5)).grownBy w1 (some w.heap.size) → (v' = .slice none 0 0 ↔ Value.slice (some ⟨w.heap.size, 0, none⟩) 0 0 = .slice none 0 0 ∧ l.length = 0) →
        ∃ g cap, v' = .slice (some ⟨g, 0, none⟩) l.length cap ∧ w1.ownsRow w.heap.size 5 1 (.slice (some ⟨g, 0, none⟩) l.length cap) l.length (byteCells l) ∧ Below w.heap.size w w1) := by
      intro v' w1 h1 hg hnil
      rw [Nat.zero_add, List.nil_append] at h1
      rcases h1.2 with ⟨e, _⟩ | ⟨g, cap, cur, rfl, r⟩
      · have := hnil.1 e; cases this.1
      · exact ⟨g, cap, rfl, h1, ((Below.refl _ _).alloc (Nat.le_refl _) _).grown hg (by simp) (fun k hk => by cases hk; exact Nat.le_refl _)⟩
    clear h2
    go_enter Try.func37, Try.ntmps37
    go_wp2_with (at_builtin; refine wpList_append_own _ rfl _ _ 35 rfl w.heap.size 5 i0 _ 1 1 Try.underlying35 hi hz0 hz1 hz2 rfl (by decide) _ 0 [] rfl own0.out ad l.length c (byteCells l) rfl HL.out Hn.out H1.out (by simp only [maxLen]; omega) (by omega) (by simp) ?_; intro v' w1 ho hgr hnil; obtain ⟨g, cap, f0, f1, f2⟩ := fin.out v' w1 ho hgr hnil; clear ho hgr hnil)
    go_ret
    exact ⟨g, cap, rfl, f1, f2⟩

/-! ### ownBanks -/
def bankSl (l : List (Int × List Int)) (g c : Nat → Nat) (i : Nat) : Value := .slice (some ⟨g i, 0, none⟩) (l.getD i (0, [])).2.length (c i)
def bankCells (l : List (Int × List Int)) (g c : Nat → Nat) : Nat → List Value
  | 0 => []
  | k + 1 => bankCells l g c k ++ [.int .i64 (l.getD k (0, [])).1, bankSl l g c k]
theorem bankCells_length (l : List (Int × List Int)) (g c : Nat → Nat) : ∀ k, (bankCells l g c k).length = k * 2
  | 0 => rfl
  | k + 1 => by rw [bankCells, List.length_append, bankCells_length l g c k]; simp; omega
theorem bankCells_at (l : List (Int × List Int)) (g c : Nat → Nat) : ∀ k i, i < k → (bankCells l g c k)[i * 2]? = some (.int .i64 (l.getD i (0, [])).1) ∧ (bankCells l g c k)[i * 2 + 1]? = some (bankSl l g c i)
  | 0, i, h => by omega
  | k + 1, i, h => by
    have hl := bankCells_length l g c k
    unfold bankCells
    by_cases e : i = k
    · subst e
      rw [List.getElem?_append_right (by omega), List.getElem?_append_right (by omega), hl, Nat.sub_self, show i * 2 + 1 - i * 2 = 1 by omega]
      exact ⟨rfl, rfl⟩
    · rw [List.getElem?_append_left (by omega), List.getElem?_append_left (by omega)]
      exact bankCells_at l g c k i (by omega)
theorem bankCells_congr (l : List (Int × List Int)) {g c g' c' : Nat → Nat} : ∀ {k}, (∀ i, i < k → g' i = g i ∧ c' i = c i) → bankCells l g' c' k = bankCells l g c k
  | 0, _ => rfl
  | k + 1, h => by
    unfold bankCells
    rw [bankCells_congr l (fun i hi => h i (by omega)), bankSl, bankSl, (h k (by omega)).1, (h k (by omega)).2]

/-- The first k banks are in lists of their own, with 90 behind each. -/
structure OwnRel (w wr : World) (l : List (Int × List Int)) (k : Nat) (v : Value) (g c : Nat → Nat) : Prop where
  below : Below w.heap.size w wr
  row : wr.ownsRow w.heap.size 37 2 v k (bankCells l g c k)
  data : ∀ i, i < k → wr.ownsRow w.heap.size 5 1 (.slice (some ⟨g i, 0, none⟩) ((l.getD i (0, [])).2.length + 1) (c i)) ((l.getD i (0, [])).2.length + 1) (byteCells (l.getD i (0, [])).2 ++ [.int .u8 90])
  inj : ∀ i j, i < k → j < k → g i = g j → i = j

theorem ownBlock_lt {w : World} {base : Nat} {e : TypeId} {size n : Nat} {v : Value} {xs : List Value} (h : w.ownsRow base e size v n xs) {b : Nat} (hb : v.ownBlock = some b) : b < w.heap.size := (h.lt b hb).2

theorem OwnRel.step {w wr w2 w3 : World} {l : List (Int × List Int)} {k : Nat} {v v' : Value} {g c : Nat → Nat} {g' c' : Nat} {X Y : Array Value} (h : OwnRel w wr l k v g c)
    (h2 : Below (wr.heap.size + 1) (wr.alloc (.cells X 37)) w2)
    (hd : w2.ownsRow (wr.heap.size + 1) 5 1 (.slice (some ⟨g', 0, none⟩) ((l.getD k (0, [])).2.length + 1) c') ((l.getD k (0, [])).2.length + 1) (byteCells (l.getD k (0, [])).2 ++ [.int .u8 90]))
    (h3 : (w2.alloc (.cells Y 37)).drew.grownBy w3 v.ownBlock) (hv' : w3.ownsRow w.heap.size 37 2 v' (k + 1) (bankCells l g c k ++ [.int .i64 (l.getD k (0, [])).1, .slice (some ⟨g', 0, none⟩) (l.getD k (0, [])).2.length c'])) :
    OwnRel w w3 l (k + 1) v' (fun i => if i = k then g' else g i) (fun i => if i = k then c' else c i) := by
  have hsz := h.below.size
  have hsz2 : wr.heap.size + 1 ≤ w2.heap.size := by have := h2.size; simpa using this
  have hb2 : Below w.heap.size w w2 := (h.below.alloc hsz _).trans (h2.mono (by omega))
  have old : ∀ i, i < wr.heap.size → w2.heap[i]? = wr.heap[i]? := fun i hi => by
    rw [h2.block i (by omega)]; exact Below.heap_alloc _ _ _ hi
  have old3 : ∀ i, i < w2.heap.size → some i ≠ v.ownBlock → w3.heap[i]? = w2.heap[i]? := fun i hi hne => by
    rw [h3.block i (by simp; omega) hne]; exact Below.heap_alloc _ _ _ hi
  have hvb : ∀ b, v.ownBlock = some b → b < wr.heap.size := fun b hb => ownBlock_lt h.row hb
  have vne : ∀ {b : Nat} {cs : Array Value}, wr.heap[b]? = some (.cells cs 5 (0, 0)) → some b ≠ v.ownBlock := by
    intro b cs hb e
    rcases h.row.2 with ⟨rfl, _⟩ | ⟨q, cap, cur, rfl, _, hh, _⟩
    · simp [Value.ownBlock] at e
    · simp only [Value.ownBlock, Option.some.injEq] at e
      subst e
      rw [hh] at hb
      exact cells_ne (by decide) (Option.some.inj hb)
  have hgk : wr.heap.size + 1 ≤ g' ∧ g' < w2.heap.size := by
    have := hd.lt g' rfl
    exact this
  refine ⟨?_, ?_, ?_, ?_⟩
  · refine hb2.trans ((Below.refl w2.heap.size w2).alloc (Nat.le_refl _) (.cells Y 37) |>.drew |>.mono hb2.size |>.trans ?_)
    exact ⟨h3.os, h3.tape, h3.output, h3.size, fun i hi => h3.block i (by have := hb2.size; simp; omega) (fun e => by
      have := (h.row.lt i e.symm).1; omega)⟩
  · rw [bankCells, bankCells_congr l (g := g) (c := c) (fun i hi => by rw [if_neg (by omega), if_neg (by omega)]; exact ⟨rfl, rfl⟩)]
    rw [bankSl, if_pos rfl, if_pos rfl]
    exact hv'
  · intro i hi
    by_cases e : i = k
    · subst e
      rw [if_pos rfl, if_pos rfl]
      refine ownsRow_heap (w := w2) ?_ (fun b hb => ?_)
      · obtain ⟨q1, q2⟩ := hd
        refine ⟨q1, ?_⟩
        rcases q2 with q2 | ⟨a1, a2, a3, a4, a5, a6⟩
        · exact .inl q2
        · exact .inr ⟨a1, a2, a3, a4, by omega, a6⟩
      · simp only [Value.ownBlock, Option.some.injEq] at hb
        subst hb
        exact old3 _ hgk.2 (fun e => by have := hvb _ e.symm; omega)
    · rw [if_neg e, if_neg e]
      have hdi := h.data i (by omega)
      refine ownsRow_heap hdi (fun b hb => ?_)
      have hbl := ownBlock_lt hdi hb
      simp only [Value.ownBlock, Option.some.injEq] at hb
      subst hb
      rcases hdi.2 with ⟨e', _⟩ | ⟨q, cap, cur, e', _, hh, _⟩
      · cases e'
      · cases e'
        rw [old3 _ (by omega) (vne hh), old _ hbl]
  · intro i j hi hj e
    by_cases ei : i = k
    · by_cases ej : j = k
      · rw [ei, ej]
      · rw [if_pos ei, if_neg ej] at e
        have : g j < wr.heap.size := ownBlock_lt (h.data j (by omega)) rfl
        omega
    · by_cases ej : j = k
      · rw [if_neg ei, if_pos ej] at e
        have : g i < wr.heap.size := ownBlock_lt (h.data i (by omega)) rfl
        omega
      · rw [if_neg ei, if_neg ej] at e
        exact h.inj i j (by omega) (by omega) e

theorem OwnRel.banks {w wr : World} {l : List (Int × List Int)} {v : Value} {g c : Nat → Nat} (h : OwnRel w wr l l.length v g c) (hB : ∀ i, i < l.length → IsBytes (l.getD i (0, [])).2) : BanksIn wr v l (bankSl l g c) := by
  refine ⟨?_, ?_, hB⟩
  · rcases h.row.2 with ⟨rfl, h0⟩ | ⟨q, cap, cur, rfl, _, hh, _, _, _, hc⟩
    · rw [h0]; exact ⟨_, _, rfl, fun h => absurd h (by decide)⟩
    · refine ⟨_, _, rfl, fun _ => ⟨q, 0, rfl, fun i hi => ?_⟩⟩
      have hget : ∀ j u, (bankCells l g c l.length)[j]? = some u → wr.cell? ⟨q, 0 + j, none⟩ = some u := by
        intro j u hj
        rw [Nat.zero_add, cell_of hh, ← Array.getElem?_toList]
        rw [← hc, List.getElem?_take] at hj
        split at hj
        · exact hj
        · cases hj
      obtain ⟨a1, a2⟩ := bankCells_at l g c _ i hi
      exact ⟨hget _ _ a1, by have := hget _ _ a2; rw [← Nat.add_assoc] at this; exact this⟩
  · intro i hi
    have hd := h.data i hi
    refine ⟨_, _, rfl, (fun e => by cases e), fun _ => ⟨g i, 0, rfl, fun j hj => ?_⟩⟩
    rcases hd.2 with ⟨e', _⟩ | ⟨q, cap, cur, e', _, hh, _, _, _, hc⟩
    · cases e'
    · cases e'
      rw [Nat.zero_add, cell_of hh, ← Array.getElem?_toList]
      have : (byteCells (l.getD i (0, [])).2 ++ [Value.int .u8 90])[j]? = some (.int .u8 ((l.getD i (0, [])).2.getD j 0)) := by
        rw [List.getElem?_append_left (by simpa [byteCells] using hj)]
        unfold byteCells
        rw [List.getElem?_map, List.getElem?_eq_getElem hj, List.getD_eq_getElem?_getD (l := (l.getD i (0, [])).2), List.getElem?_eq_getElem hj]; rfl
      rw [← hc, List.getElem?_take] at this
      split at this
      · exact this
      · cases this
end Go.Proofs.Ytabeljpnmmfpgaa

namespace Go.Proofs.Ytabeljpnmmfpgaa
open Go.RowKit Go.MapKept
set_option linter.unusedVariables false
set_option linter.unusedSimpArgs false

/-- Cells that a slice holds. -/
def CellsIn (w : World) (v : Value) (l : List Int) : Prop :=
  (∀ x ∈ l, 0 ≤ x ∧ x < 65536) ∧ ∃ a c, v = .slice a l.length c ∧ (0 < l.length → ∃ b o, a = some ⟨b, o, none⟩ ∧ ∀ j, j < l.length → w.cell? ⟨b, o + j, none⟩ = some (.int .u16 (l.getD j 0)))

/-- Nothing of the list is greater than this. -/
def Small (l : List (Int × List Int)) : Prop := l.length ≤ 2000000 ∧ ∀ i, (l.getD i (0, [])).2.length ≤ 2000000

set_option maxRecDepth 100000 in
set_option maxHeartbeats 2000000 in
theorem ownBanks_any (w : World) (v : Value) (l : List (Int × List Int)) (dv : Nat → Value) (hb : BanksIn w v l dv) (hs : Small l) :
    Calls Try.prog 8 #[v] w fun e w' => ∃ v' g c, e = .returned v' ∧ OwnRel w w' l l.length v' g c := by
  obtain ⟨i0, hi, hz0, hz1, hz2⟩ := info_parts infoU8
  obtain ⟨i1, hj, hy0, hy1, hy2⟩ := info_parts infoBank
  obtain ⟨A, cap, rfl, hrow⟩ := hb.row
  have hlen := hs.1
  have start : Hid (OwnRel w w l 0 (.slice none 0 0) (fun _ => 0) (fun _ => 0)) := ⟨Below.refl _ _, World.ownsRow_nil _ _ _ _, fun i hi => by omega, fun i j hi => by omega⟩
  have HB := Lib.hid hb
  have HR := Lib.hid hrow
  have HS := Lib.hid hs
  clear hb hrow hs
  go_enter Try.func8, Try.ntmps8
  go_wp2_with (fail)
  go_loopw [3, 9] (fun v i wr => ∃ k : Nat, k ≤ l.length ∧ i = .int .i64 k ∧ ∃ g c, OwnRel w wr l k v g c) (fun _ i _ => l.length - (intOf i).toNat)
  case atStart => exact ⟨0, Nat.zero_le _, rfl, _, _, start.out⟩
  case round =>
    obtain ⟨k, hk, rfl, g, c, hrel⟩ := hrel
    by_cases hlt : k < l.length
    · obtain ⟨ab, ao, rfl, hcc⟩ := HR.out (by omega)
      have hbw : Below w.heap.size w wr := hrel.below
      obtain ⟨da, dc, hd, hdn, hdata⟩ := HB.out.bytes k hlt
      have hbyt := HB.out.bytes k hlt
      have c0 : wr.cell? ⟨ab, ao + k * 2, none⟩ = some (.int .i64 (l.getD k (0, [])).1) := cell_keep hbw (hcc k hlt).1 (World.block_lt_of_cell? w _ (hcc k hlt).1)
      have c1 : wr.cell? ⟨ab, ao + k * 2 + 1, none⟩ = some (.slice da (l.getD k (0, [])).2.length dc) := hd ▸ cell_keep hbw (hcc k hlt).2 (World.block_lt_of_cell? w _ (hcc k hlt).2)
      have hsm := HS.out.2 k
      obtain ⟨p, hp⟩ : ∃ p, p = l.getD k (0, []) := ⟨_, rfl⟩
      rw [← hp] at c0 c1 hsm hbyt
      have Hp := Lib.hid hp
      have Hrel := Lib.hid hrel
      obtain ⟨nm, ds⟩ := p
      dsimp only at c0 c1 hsm hbyt
      have hsz := hbw.size
      have hown : Hid (BytesIn (wr.alloc (.cells #[.int .i64 nm, .slice da ds.length dc] 37)) (.slice da ds.length dc) ds) := by
        rw [hd, ← hp] at hbyt
        exact hbyt.below ((hbw.alloc hsz _).mono (Nat.le_refl _))
      clear hp hd hrel hcc hdata hdn hbyt hbw
      go_wp2_with (fail)
      refine (own_any _ _ ds (by omega) hown.out).mono ?_
      rintro e w1 ⟨g1, cap1, rfl, o1, b1⟩
      have e0 : (wr.alloc (.cells #[.int .i64 nm, .slice da ds.length dc] 37)).heap.size = wr.heap.size + 1 := by simp
      rw [e0] at o1 b1
      have HO := Lib.hid o1
      have HB1 := Lib.hid b1
      have hsz1 : wr.heap.size + 1 ≤ w1.heap.size := by have := b1.size; simpa using this
      have hn1 : Hid (∀ j u, ([.int .u8 90] : List Value)[j]? = some u → (w1.alloc (.cells #[.int .u8 90] 5)).cell? ((⟨w1.heap.size, 0, none⟩ : Addr).add j) = some u) := by
        intro j u hj'
        have hj0 : j < 1 := by have := (List.getElem?_eq_some_iff.1 hj').1; simpa using this
        rw [addr_add, Nat.zero_add, cell_of (heap_alloc_at w1 _)]
        simpa using hj'
      have after : Hid (∀ (v2 : Value) (w2 : World), w2.ownsRow (wr.heap.size + 1) 5 1 v2 (ds.length + 1) (byteCells ds ++ [.int .u8 90]) → (w1.alloc (.cells #[.int .u8 90] 5)).grownBy w2 (some g1) →
          ∃ g2 cap2, v2 = .slice (some ⟨g2, 0, none⟩) (ds.length + 1) cap2 ∧ Hid (w2.ownsRow (wr.heap.size + 1) 5 1 (.slice (some ⟨g2, 0, none⟩) (ds.length + 1) cap2) (ds.length + 1) (byteCells ds ++ [.int .u8 90])) ∧
            w2.cell? ⟨wr.heap.size, 0, none⟩ = some (.int .i64 nm) ∧ w2.cell? ⟨wr.heap.size, 1, none⟩ = some (.slice da ds.length dc) ∧ Hid (Below (wr.heap.size + 1) (wr.alloc (.cells #[.int .i64 nm, .slice da ds.length dc] 37)) w2) ∧ ds.length ≤ cap2) := by
        intro v2 w2 o2 g2w
        have hb12 : Below (wr.heap.size + 1) (wr.alloc (.cells #[.int .i64 nm, .slice da ds.length dc] 37)) w2 := (HB1.out.alloc hsz1 _).grown g2w (by simp; omega) (fun q hq => by cases hq; exact (HO.out.lt g1 rfl).1)
        have hcc : ∀ j u, (#[.int .i64 nm, .slice da ds.length dc] : Array Value)[j]? = some u → w2.cell? ⟨wr.heap.size, j, none⟩ = some u := fun j u hu => cell_keep hb12 (by rw [cell_of (heap_alloc_at wr _)]; exact hu) (by show wr.heap.size < _; omega)
        rcases o2.2 with ⟨e', h0⟩ | ⟨q, qc, cur, rfl, r1, r2, r3, r4⟩
        · omega
        · exact ⟨q, qc, rfl, o2, hcc 0 _ rfl, hcc 1 _ rfl, hb12, by omega⟩
      clear o1 b1 e0
      go_wp2_with (at_builtin; refine wpList_append_own _ rfl _ _ 35 rfl (wr.heap.size + 1) 5 i0 _ 1 1 Try.underlying35 hi hz0 hz1 hz2 rfl (by decide) _ ds.length (byteCells ds) rfl (HO.out.alloc _) ⟨w1.heap.size, 0, none⟩ 1 1 [.int .u8 90] rfl rfl hn1.out (by simp [Value.oneCell']) (by simp only [maxLen]; omega) (by omega) (by simp; omega) ?_; intro v2 w2 ho hgr hnil; obtain ⟨g2, cap2, f0, f1, f2, f3, f4, f5⟩ := after.out v2 w2 ho hgr; rw [f0]; clear ho hgr hnil f0)
      obtain ⟨Y, hY⟩ : ∃ Y : Array Value, Y = #[.int .i64 nm, .slice (some ⟨g2, 0, none⟩) ds.length cap2] := ⟨_, rfl⟩
      have hsz2 : wr.heap.size + 1 ≤ w2.heap.size := by have := f4.out.size; simpa using this
      have HV : Hid ((w2.alloc (.cells #[.int .i64 nm, .slice (some ⟨g2, 0, none⟩) ds.length cap2] 37)).drew.ownsRow w.heap.size 37 2 u3 k (bankCells l g c k)) := by
        refine ownsRow_heap (w := wr) Hrel.out.row (fun b hb => ?_)
        have hbl := ownBlock_lt Hrel.out.row hb
        show (w2.alloc _).heap[b]? = _
        rw [Below.heap_alloc _ _ _ (by omega), f4.out.block b (by omega)]
        exact Below.heap_alloc _ _ _ hbl
      have HN : Hid (∀ j u, ([.int .i64 nm, .slice (some ⟨g2, 0, none⟩) ds.length cap2] : List Value)[j]? = some u → (w2.alloc (.cells #[.int .i64 nm, .slice (some ⟨g2, 0, none⟩) ds.length cap2] 37)).drew.cell? ((⟨w2.heap.size, 0, none⟩ : Addr).add j) = some u) := by
        intro j u hj'
        rw [addr_add, Nat.zero_add]
        show (w2.alloc _).cell? _ = _
        rw [cell_of (heap_alloc_at w2 _)]
        simpa using hj'
      have fin : Hid (∀ (q qc : Nat) (w3 : World), (w2.alloc (.cells #[.int .i64 nm, .slice (some ⟨g2, 0, none⟩) ds.length cap2] 37)).drew.grownBy w3 u3.ownBlock → w3.ownsRow w.heap.size 37 2 (.slice (some ⟨q, 0, none⟩) (k + 1) qc) (k + 1) (bankCells l g c k ++ [.int .i64 nm, .slice (some ⟨g2, 0, none⟩) ds.length cap2]) →
          ∃ g' c', OwnRel w w3 l (k + 1) (.slice (some ⟨q, 0, none⟩) (k + 1) qc) g' c') := by
        intro q qc w3 hg ho
        have e1 : nm = (l.getD k (0, [])).1 := by rw [← Hp.out]
        have e2 : ds = (l.getD k (0, [])).2 := by rw [← Hp.out]
        have f1' := f1.out
        rw [e2] at f1' hg ho
        rw [e1] at ho
        exact ⟨_, _, Hrel.out.step (X := #[.int .i64 nm, .slice da ds.length dc]) f4.out f1' hg ho⟩
      clear hY Y
      go_wp2_with (fail)
      go_region_law (refine step_append_lies _ rfl (.tmp 18) (.tmp 27) 22 rfl w.heap.size 37 i1 _ 2 32 Try.underlying22 hj hy0 hy1 hy2 rfl (by decide) u3 k (bankCells l g c k) (by simp [Act.eval]) HV.out ⟨w2.heap.size, 0, none⟩ 1 1 [.int .i64 nm, .slice (some ⟨g2, 0, none⟩) ds.length cap2] (by simp [Act.eval]) rfl HN.out (by simp [Value.oneCell']) (by decide) (by simp only [maxLen]; omega) (by omega) (by simp; omega) _ rfl ?_; intro q qc w3 ho hg hat hlt'; have f6 := Lib.hid (fin.out q qc w3 hg ho); clear ho hg hat hlt')
      all_goals
        go_wp2_with (fail)
        go_roundw
        case rel => exact ⟨k + 1, hlt, by go_num, f6.out⟩
        case measure => simp [intOf]; omega
    · have hke : k = l.length := by omega
      have fin : Hid (∃ g c, OwnRel w wr l l.length u3 g c) := ⟨g, c, hke ▸ hrel⟩
      clear hke hrel
      go_wp2_with (fail)
      go_ret
      obtain ⟨g, c, hr⟩ := fin.out
      exact ⟨_, g, c, rfl, hr⟩

def MayPost (w : World) (l : List (Int × List Int)) (e : Ending) (w' : World) : Prop :=
  Below w.heap.size w w' ∧ ((banksOk l ∧ e = .returned (.bool true)) ∨ (¬ banksOk l ∧ e = .returned (.bool false)))
def MayRel (w wr : World) (l : List (Int × List Int)) (k : Nat) (la : Int) : Prop := Below w.heap.size w wr ∧ (∀ i, i < k → okAt l i) ∧ la = lastAt l k
theorem MayRel.bad {w wr : World} {l : List (Int × List Int)} {k : Nat} {la : Int} (h : MayRel w wr l k la) {w' : World} (hw : Below wr.heap.size wr w') (hk : k < l.length) (hbad : ¬ okAt l k) : MayPost w l (.returned (.bool false)) w' :=
  ⟨h.1.trans (hw.mono h.1.size), .inr ⟨fun hb => hbad (hb k hk), rfl⟩⟩
theorem MayRel.step {w wr : World} {l : List (Int × List Int)} {k : Nat} {la : Int} (h : MayRel w wr l k la) (X : Array Value) (hk : okAt l k) : MayRel w (wr.alloc (.cells X 37)) l (k + 1) (l.getD k (0, [])).1 :=
  ⟨h.1.alloc h.1.size _, fun i hi => by
    by_cases e : i = k
    · subst e; exact hk
    · exact h.2.1 i (by omega), (lastAt_succ l k).symm⟩

set_option maxRecDepth 100000 in
set_option maxHeartbeats 2000000 in
theorem mayBanks_any (w : World) (v : Value) (l : List (Int × List Int)) (dv : Nat → Value) (hb : BanksIn w v l dv) (hlen : l.length ≤ 2000000) :
    Calls Try.prog 38 #[v] w (MayPost w l) := by
  obtain ⟨A, cap, rfl, hrow⟩ := hb.row
  have HB := Lib.hid hb
  have HR := Lib.hid hrow
  clear hb hrow
  go_enter Try.func38, Try.ntmps38
  go_wp2_with (fail)
  go_loopw [3, 8] (fun last i wr => ∃ k : Nat, ∃ la : Int, k ≤ l.length ∧ i = .int .i64 k ∧ last = .int .i64 la ∧ MayRel w wr l k la) (fun _ i _ => l.length - (intOf i).toNat)
  case atStart => exact ⟨0, -1, Nat.zero_le _, rfl, rfl, Below.refl _ _, fun i hi => by omega, rfl⟩
  case round =>
    obtain ⟨k, la, hk, rfl, rfl, hrel⟩ := hrel
    by_cases hlt : k < l.length
    · obtain ⟨ab, ao, rfl, hcc⟩ := HR.out (by omega)
      have hbw : Below w.heap.size w wr := hrel.1
      obtain ⟨da, dc, hd, _, hdata⟩ := HB.out.bytes k hlt
      have c0 : wr.cell? ⟨ab, ao + k * 2, none⟩ = some (.int .i64 (l.getD k (0, [])).1) := cell_keep hbw (hcc k hlt).1 (World.block_lt_of_cell? w _ (hcc k hlt).1)
      have c1 : wr.cell? ⟨ab, ao + k * 2 + 1, none⟩ = some (.slice da (l.getD k (0, [])).2.length dc) := hd ▸ cell_keep hbw (hcc k hlt).2 (World.block_lt_of_cell? w _ (hcc k hlt).2)
      have hle : lastAt l k = la := hrel.2.2.symm
      obtain ⟨p, hp⟩ : ∃ p, p = l.getD k (0, []) := ⟨_, rfl⟩
      rw [← hp] at c0 c1
      have Hok : Hid (okAt l k ↔ (la < p.1 ∧ p.1 ≤ 15 ∧ p.2.length ≤ 16384)) := by unfold okAt; rw [hle, ← hp]; exact Iff.rfl
      have Hp := Lib.hid hp
      have Hrel := Lib.hid hrel
      obtain ⟨nm, ds⟩ := p
      dsimp only at c0 c1 Hok
      clear hle hp hd hrel hbw hcc hdata
      have fin : Hid (¬ (la < nm ∧ nm ≤ 15 ∧ ds.length ≤ 16384) → ∀ w', Below wr.heap.size wr w' → MayPost w l (.returned (.bool false)) w') := fun hn w' hw => Hrel.out.bad hw hlt (fun h => hn (Hok.out.1 h))
      by_cases n1 : nm ≤ la
      · have d1 : decide (nm ≤ la) = true := by simpa using n1
        have f2 := Lib.hid (fin.out (by omega))
        go_wp2_with (fail)
        go_ret
        exact f2.out _ ((Below.refl _ _).alloc (Nat.le_refl _) _)
      have d1 : decide (nm ≤ la) = false := by simpa using n1
      by_cases n2 : 15 < nm
      · have d2 : decide (15 < nm) = true := by simpa using n2
        have f2 := Lib.hid (fin.out (by omega))
        go_wp2_with (fail)
        go_ret
        exact f2.out _ ((Below.refl _ _).alloc (Nat.le_refl _) _)
      have d2 : decide (15 < nm) = false := by simpa using n2
      by_cases n3 : 16384 < ds.length
      · have d3 : decide ((16384 : Int) < (ds.length : Int)) = true := by simp; omega
        have f2 := Lib.hid (fin.out (by omega))
        go_wp2_with (fail)
        go_ret
        exact f2.out _ ((Below.refl _ _).alloc (Nat.le_refl _) _)
      have d3 : decide ((16384 : Int) < (ds.length : Int)) = false := by simp; omega
      have hnew : Hid (MayRel w (wr.alloc (.cells #[.int .i64 nm, .slice da ds.length dc] 37)) l (k + 1) nm) := by
        have := Hrel.out.step #[.int .i64 nm, .slice da ds.length dc] (Hok.out.2 ⟨by omega, by omega, by omega⟩)
        rw [← Hp.out] at this; exact this
      go_wp2_with (fail)
      go_roundw
      case rel => exact ⟨k + 1, _, hlt, by go_num, rfl, hnew.out⟩
      case measure => simp [intOf]; omega
    · have hke : k = l.length := by omega
      have fin : Hid (MayPost w l (.returned (.bool true)) wr) := ⟨hrel.1, .inl ⟨fun i hi => hrel.2.1 i (by omega), rfl⟩⟩
      clear hke
      go_wp2_with (fail)
      go_ret
      exact fin.out

theorem may_any (w : World) (v : Value) (l : List (Int × List Int)) (dv : Nat → Value) (hb : BanksIn w v l dv) (hlen : l.length ≤ 2000000) :
    Calls Try.prog 10 #[v] w (MayPost w l) := by
  have hm := Lib.hid (mayBanks_any w v l dv hb hlen)
  clear hb
  go_enter Try.func10, Try.ntmps10
  go_wp2_with (fail)
  refine hm.out.mono ?_
  rintro e w1 ⟨b1, ⟨hb, rfl⟩ | ⟨hb, rfl⟩⟩
  · have f : Hid (MayPost w l (.returned (.bool true)) w1) := ⟨b1, .inl ⟨hb, rfl⟩⟩
    go_wp2_with (fail)
    go_ret
    exact f.out
  · have f : Hid (MayPost w l (.returned (.bool false)) w1) := ⟨b1, .inr ⟨hb, rfl⟩⟩
    go_wp2_with (fail)
    go_ret
    exact f.out

theorem plain_any (a : Int) (w : World) : Calls Try.prog 13 #[.int .u16 a] w fun e w' => e = .returned (.bool (decide (16384 ≤ a ∧ a < 52224))) ∧ w = w' := by
  by_cases h1 : 16384 ≤ a
  · have d1 : decide (16384 ≤ a) = true := by simpa using h1
    by_cases h2 : a < 52224
    · have d2 : decide (a < 52224) = true := by simpa using h2
      go_enter Try.func13, Try.ntmps13
      go_wp2
      go_ret
      exact ⟨by simp [h1, h2], rfl⟩
    · have d2 : decide (a < 52224) = false := by simpa using h2
      go_enter Try.func13, Try.ntmps13
      go_wp2
      go_ret
      exact ⟨by simp [h2], rfl⟩
  · have d1 : decide (16384 ≤ a) = false := by simpa using h1
    go_enter Try.func13, Try.ntmps13
    go_wp2
    go_ret
    exact ⟨by simp [h1], rfl⟩
end Go.Proofs.Ytabeljpnmmfpgaa

namespace Go.Proofs.Ytabeljpnmmfpgaa
open Go.RowKit Go.MapKept
set_option linter.unusedVariables false
set_option linter.unusedSimpArgs false

theorem BytesIn.quiet {w w' : World} (h : Quiet w w') {v : Value} {l : List Int} (hb : BytesIn w v l) : BytesIn w' v l := hb.below h.below
theorem BanksIn.quiet {w w' : World} (h : Quiet w w') {v : Value} {l : List (Int × List Int)} {dv : Nat → Value} (hb : BanksIn w v l dv) : BanksIn w' v l dv := hb.below h.below

set_option maxRecDepth 100000 in
set_option maxHeartbeats 2000000 in
theorem sameBanks_any (w : World) (v u : Value) (l : List (Int × List Int)) (dv du : Nat → Value) (hv : BanksIn w v l dv) (hu : BanksIn w u l du) (hlen : l.length ≤ 2000000) :
    Calls Try.prog 39 #[v, u] w fun e w' => e = .returned (.bool true) ∧ Quiet w w' := by
  obtain ⟨A, cap, rfl, hrow⟩ := hv.row
  obtain ⟨B, cup, rfl, huow⟩ := hu.row
  have HV := Lib.hid hv; have HU := Lib.hid hu; have HR := Lib.hid hrow; have HS := Lib.hid huow
  clear hv hu hrow huow
  go_enter Try.func39, Try.ntmps39
  go_wp2_with (fail)
  go_loopw [13] (fun i wr => ∃ k : Nat, k ≤ l.length ∧ i = .int .i64 k ∧ Hid (Quiet w wr)) (fun i _ => l.length - (intOf i).toNat)
  case atStart => exact ⟨0, Nat.zero_le _, rfl, Quiet.refl _⟩
  case round =>
    obtain ⟨k, hk, rfl, hq⟩ := hrel
    by_cases hlt : k < l.length
    · obtain ⟨ab, ao, rfl, hcc⟩ := HR.out (by omega)
      obtain ⟨bb, bo, rfl, hcd⟩ := HS.out (by omega)
      have hx := HV.out.bytes k hlt
      have hy := HU.out.bytes k hlt
      obtain ⟨da, dc, hd, _, _⟩ := HV.out.bytes k hlt
      obtain ⟨ea, ec, he, _, _⟩ := HU.out.bytes k hlt
      have hh := hq.out.heap
      have c0 : wr.cell? ⟨ab, ao + k * 2, none⟩ = some (.int .i64 (l.getD k (0, [])).1) := by rw [← (hcc k hlt).1]; simp only [World.cell?, hh]
      have c1 : wr.cell? ⟨ab, ao + k * 2 + 1, none⟩ = some (dv k) := by rw [← (hcc k hlt).2]; simp only [World.cell?, hh]
      have d0 : wr.cell? ⟨bb, bo + k * 2, none⟩ = some (.int .i64 (l.getD k (0, [])).1) := by rw [← (hcd k hlt).1]; simp only [World.cell?, hh]
      have d1 : wr.cell? ⟨bb, bo + k * 2 + 1, none⟩ = some (du k) := by rw [← (hcd k hlt).2]; simp only [World.cell?, hh]
      have v0 : ∀ n, (convert 35 9 (dv k)).run Try.prog (wr.drewN n) = .ok (.string (bstr (l.getD k (0, [])).2)) (wr.drewN n) := fun n =>
        run_conv_bytes Try.underlying35 Try.underlying5 Try.underlying9 (hx.quiet (hq.out.trans ⟨n, rfl⟩))
      have u0 : ∀ n, (convert 35 9 (du k)).run Try.prog (wr.drewN n) = .ok (.string (bstr (l.getD k (0, [])).2)) (wr.drewN n) := fun n =>
        run_conv_bytes Try.underlying35 Try.underlying5 Try.underlying9 (hy.quiet (hq.out.trans ⟨n, rfl⟩))
      rw [hd] at c1 v0
      rw [he] at d1 u0
      obtain ⟨s, hs⟩ : ∃ s, s = bstr (l.getD k (0, [])).2 := ⟨_, rfl⟩
      obtain ⟨nm, hn⟩ : ∃ nm, nm = (l.getD k (0, [])).1 := ⟨_, rfl⟩
      obtain ⟨ln, hl⟩ : ∃ ln, ln = (l.getD k (0, [])).2.length := ⟨_, rfl⟩
      rw [← hs] at v0 u0
      rw [← hn] at c0 d0
      rw [← hl] at c1 d1 v0 u0
      clear hs hn hl hh hcc hcd hx hy hd he
      go_wp2_with (fail)
      go_quiet (fail)
      go_wp2_with (fail)
      have hq2 : Hid (Quiet w (wr.drewN nq)) := hq.out.trans ⟨nq, rfl⟩
      go_roundw
      case rel => exact ⟨k + 1, hlt, by go_num, hq2⟩
      case measure => simp [intOf]; omega
    · have hke : k = l.length := by omega
      clear hke
      go_wp2_with (fail)
      go_ret
      exact ⟨rfl, hq.out⟩

/-! ### images -/
structure Img where
  banks : List (Int × List Int)
  ram : List Int
  scr : List Int
  chosen : Int
  pad : Int
  pitch : Int
  volume : Int
  time : Int

def Img.val (I : Img) (b r s : Value) : Value := .agg #[b, r, s, .int .u8 I.chosen, .int .u8 I.pad, .int .u16 I.pitch, .int .u8 I.volume, .int .u16 I.time]

structure Img.Ok (I : Img) : Prop where
  ram : IsBytes I.ram
  scr : IsBytes I.scr
  banks : ∀ i, i < I.banks.length → IsBytes (I.banks.getD i (0, [])).2
  chosen : 0 ≤ I.chosen ∧ I.chosen < 256
  pad : 0 ≤ I.pad ∧ I.pad < 256
  pitch : 0 ≤ I.pitch ∧ I.pitch < 65536
  volume : 0 ≤ I.volume ∧ I.volume < 256
  time : 0 ≤ I.time ∧ I.time < 65536

structure ImgIn (w : World) (I : Img) (b r s : Value) (dv : Nat → Value) : Prop where
  banks : BanksIn w b I.banks dv
  ram : BytesIn w r I.ram
  scr : BytesIn w s I.scr

theorem ImgIn.below {w w' : World} (h : Below w.heap.size w w') {I : Img} {b r s : Value} {dv : Nat → Value} (hi : ImgIn w I b r s dv) : ImgIn w' I b r s dv :=
  ⟨hi.banks.below h, hi.ram.below h, hi.scr.below h⟩

set_option maxRecDepth 100000 in
set_option maxHeartbeats 2000000 in
theorem sameImage_any (w : World) (I : Img) (b r s b' r' s' : Value) (dv du : Nat → Value) (h : ImgIn w I b r s dv) (h' : ImgIn w I b' r' s' du) (hlen : I.banks.length ≤ 2000000) :
    Calls Try.prog 20 #[I.val b r s, I.val b' r' s'] w fun e w' => e = .returned (.bool true) ∧ Below w.heap.size w w' := by
  obtain ⟨l, ram, scr, chosen, pad, pitch, volume, time⟩ := I
  obtain ⟨h1, h2, h3⟩ := h
  obtain ⟨k1, k2, k3⟩ := h'
  dsimp only [Img.val] at *
  obtain ⟨a1, c1, rfl, h1r⟩ := h1.row
  obtain ⟨a2, c2, rfl, h2n, h2r⟩ := h2
  obtain ⟨a3, c3, rfl, h3n, h3r⟩ := h3
  obtain ⟨e1, f1, rfl, k1r⟩ := k1.row
  obtain ⟨e2, f2, rfl, k2n, k2r⟩ := k2
  obtain ⟨e3, f3, rfl, k3n, k3r⟩ := k3
  obtain ⟨V, hV⟩ : ∃ V : Array Value, V = #[.slice a1 l.length c1, .slice a2 ram.length c2, .slice a3 scr.length c3, .int .u8 chosen, .int .u8 pad, .int .u16 pitch, .int .u8 volume, .int .u16 time] := ⟨_, rfl⟩
  obtain ⟨U, hU⟩ : ∃ U : Array Value, U = #[.slice e1 l.length f1, .slice e2 ram.length f2, .slice e3 scr.length f3, .int .u8 chosen, .int .u8 pad, .int .u16 pitch, .int .u8 volume, .int .u16 time] := ⟨_, rfl⟩
  have hb : Below w.heap.size w ((w.alloc (.cells V 45)).alloc (.cells U 45)) := (((Below.refl _ _).alloc (Nat.le_refl _) _).alloc (by simp) _)
  have call := sameBanks_any ((w.alloc (.cells V 45)).alloc (.cells U 45)) _ _ l dv du (h1.below hb) (k1.below hb) hlen
  have g2 : ∀ W, Below w.heap.size w W → (convert 35 9 (.slice a2 ram.length c2)).run Try.prog W = .ok (.string (bstr ram)) W := fun W hW =>
    run_conv_bytes Try.underlying35 Try.underlying5 Try.underlying9 (BytesIn.below hW ⟨a2, c2, rfl, h2n, h2r⟩)
  have g3 : ∀ W, Below w.heap.size w W → (convert 35 9 (.slice a3 scr.length c3)).run Try.prog W = .ok (.string (bstr scr)) W := fun W hW =>
    run_conv_bytes Try.underlying35 Try.underlying5 Try.underlying9 (BytesIn.below hW ⟨a3, c3, rfl, h3n, h3r⟩)
  have j2 : ∀ W, Below w.heap.size w W → (convert 35 9 (.slice e2 ram.length f2)).run Try.prog W = .ok (.string (bstr ram)) W := fun W hW =>
    run_conv_bytes Try.underlying35 Try.underlying5 Try.underlying9 (BytesIn.below hW ⟨e2, f2, rfl, k2n, k2r⟩)
  have j3 : ∀ W, Below w.heap.size w W → (convert 35 9 (.slice e3 scr.length f3)).run Try.prog W = .ok (.string (bstr scr)) W := fun W hW =>
    run_conv_bytes Try.underlying35 Try.underlying5 Try.underlying9 (BytesIn.below hW ⟨e3, f3, rfl, k3n, k3r⟩)
  have HC := Lib.hid call
  have hV' := hV; have hU' := hU
  subst hV; subst hU
  have G2 := Lib.hid g2; have G3 := Lib.hid g3; have J2 := Lib.hid j2; have J3 := Lib.hid j3; have HB := Lib.hid hb
  clear g2 g3 j2 j3 call h1 k1 h1r h2r h3r k1r k2r k3r h2n h3n k2n k3n hV' hU' hb
  obtain ⟨s2, hs2⟩ : ∃ s2, s2 = bstr ram := ⟨_, rfl⟩
  obtain ⟨s3, hs3⟩ : ∃ s3, s3 = bstr scr := ⟨_, rfl⟩
  rw [← hs2] at G2 J2
  rw [← hs3] at G3 J3
  clear hs2 hs3
  have HQ : Hid (∀ n, (convert 35 9 (.slice a2 ram.length c2)).run Try.prog (World.drewN w n) = .ok (.string s2) (World.drewN w n)) := fun n => G2.out _ (Quiet.below ⟨n, rfl⟩)
  go_enter Try.func20, Try.ntmps20
  go_wp2_with (go_at_call 39; refine HC.out.mono ?_; rintro e w' ⟨rfl, q, rfl⟩; have HB2 := Lib.hid (HB.out.trans (Quiet.below ⟨q, rfl⟩)); have g2 := G2.out _ HB2.out; have g3 := G3.out _ HB2.out; have j2 := J2.out _ HB2.out; have j3 := J3.out _ HB2.out)
  go_ret
  exact ⟨rfl, HB2.out⟩
end Go.Proofs.Ytabeljpnmmfpgaa
