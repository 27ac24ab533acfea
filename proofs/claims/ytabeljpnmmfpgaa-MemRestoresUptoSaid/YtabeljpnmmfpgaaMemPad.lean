/-
  The statement's own paddings of an image: what the boxed parameter holds.
-/
import Derived.Test.YtabeljpnmmfpgaaMemRest2
namespace Go.Proofs.Ytabeljpnmmfpgaa
open Go.RowKit Go.MapKept
set_option linter.unusedVariables false
set_option linter.unusedSimpArgs false

theorem BytesIn.blk {W W' : World} {v : Value} {l : List Int} (h : BytesIn W v l) (hk : ∀ b o n c, v = .slice (some ⟨b, o, none⟩) n c → W'.heap[b]? = W.heap[b]?) : BytesIn W' v l := by
  obtain ⟨a, c, rfl, hn, h2⟩ := h
  refine ⟨a, c, rfl, hn, fun hl => ?_⟩
  obtain ⟨b, o, rfl, h4⟩ := h2 hl
  have hb := hk b o _ _ rfl
  exact ⟨b, o, rfl, fun j hj => by rw [← h4 j hj]; simp only [World.cell?, hb]⟩
theorem BanksIn.blk {W W' : World} {v : Value} {l : List (Int × List Int)} {dv : Nat → Value} (h : BanksIn W v l dv) (hk : ∀ b o n c, v = .slice (some ⟨b, o, none⟩) n c → W'.heap[b]? = W.heap[b]?) (hd : ∀ i, i < l.length → ∀ b o n c, dv i = .slice (some ⟨b, o, none⟩) n c → W'.heap[b]? = W.heap[b]?) : BanksIn W' v l dv := by
  obtain ⟨⟨a, c, rfl, h2⟩, h3, h4⟩ := h
  refine ⟨⟨a, c, rfl, fun hl => ?_⟩, fun i hi => (h3 i hi).blk (hd i hi), h4⟩
  obtain ⟨ab, ao, rfl, hc⟩ := h2 hl
  have hb := hk ab ao _ _ rfl
  exact ⟨ab, ao, rfl, fun i hi => ⟨by rw [← (hc i hi).1]; simp only [World.cell?, hb], by rw [← (hc i hi).2]; simp only [World.cell?, hb]⟩⟩

/-- W' is W but for the box and for what is new. -/
structure Kp (w W W' : World) : Prop where
  below : Below w.heap.size w W'
  size : W.heap.size ≤ W'.heap.size
  block : ∀ i, i ≠ w.heap.size → i < W.heap.size → W'.heap[i]? = W.heap[i]?
theorem Kp.trans {w W W' W'' : World} (h : Kp w W W') (k : Kp w W' W'') : Kp w W W'' :=
  ⟨k.below, Nat.le_trans h.size k.size, fun i hi hl => (k.block i hi (Nat.lt_of_lt_of_le hl h.size)).trans (h.block i hi hl)⟩

def boxOf (I : Img) (b r s : Value) : Array Value := #[b, r, s, .int .u8 I.chosen, .int .u8 I.pad, .int .u16 I.pitch, .int .u8 I.volume, .int .u16 I.time]
/-- The boxed parameter holds the image I. -/
structure PIn (w W : World) (I : Img) (b r s : Value) (dv : Nat → Value) : Prop where
  below : Below w.heap.size w W
  box : W.heap[w.heap.size]? = some (.cells (boxOf I b r s) 45 (0, 0))
  img : ∀ W', Kp w W W' → ImgIn W' I b r s dv

theorem PIn.lt {w W : World} {I : Img} {b r s : Value} {dv : Nat → Value} (h : PIn w W I b r s dv) : w.heap.size < W.heap.size := (Array.getElem?_eq_some_iff.1 h.box).1
theorem PIn.now {w W : World} {I : Img} {b r s : Value} {dv : Nat → Value} (h : PIn w W I b r s dv) : ImgIn W I b r s dv := h.img W ⟨h.below, Nat.le_refl _, fun _ _ _ => rfl⟩
theorem PIn.start {w : World} {I : Img} {b r s : Value} {dv : Nat → Value} (h : ImgIn w I b r s dv) : PIn w (w.alloc (.cells (boxOf I b r s) 45)) I b r s dv :=
  ⟨(Below.refl _ _).alloc (Nat.le_refl _) _, heap_alloc_at w _, fun W' hW => h.below hW.below⟩
theorem PIn.next {w W W' : World} {I : Img} {b r s : Value} {dv : Nat → Value} (h : PIn w W I b r s dv) (hb : Below W.heap.size W W') : PIn w W' I b r s dv := by
  have hbel := h.below.trans (hb.mono h.below.size)
  exact ⟨hbel, (hb.block _ h.lt).trans h.box, fun W'' hW => h.img W'' (Kp.trans ⟨hbel, hb.size, fun i _ hl => hb.block i hl⟩ hW)⟩
theorem Kp.ofSet {w W W' : World} {k : Nat} {v : Value} (hb : Below w.heap.size w W) (h : Kp w (W.setCell ⟨w.heap.size, k, none⟩ v) W') : Kp w W W' :=
  Kp.trans ⟨hb.setCell (by simp) _, by simp [World.setCell], fun i hi _ => heap_set_far hi⟩ h
theorem PIn.setRam {w W : World} {I : Img} {b r s v : Value} {dv : Nat → Value} {l : List Int} (h : PIn w W I b r s dv) (hv : BytesIn W v l) (hvb : ∀ b o n c, v = .slice (some ⟨b, o, none⟩) n c → w.heap.size < b ∧ b < W.heap.size) :
    PIn w (W.setCell ⟨w.heap.size, 1, none⟩ v) { I with ram := l } b v s dv := by
  refine ⟨h.below.setCell (by simp) _, heap_set_cell h.box 1 v, fun W' hW => ?_⟩
  have hk := Kp.ofSet h.below hW
  have hi := h.img W' hk
  exact ⟨hi.banks, hv.blk (fun b o n c e => by have := hvb b o n c e; exact hk.block b (by omega) this.2), hi.scr⟩
theorem PIn.setScr {w W : World} {I : Img} {b r s v : Value} {dv : Nat → Value} {l : List Int} (h : PIn w W I b r s dv) (hv : BytesIn W v l) (hvb : ∀ b o n c, v = .slice (some ⟨b, o, none⟩) n c → w.heap.size < b ∧ b < W.heap.size) :
    PIn w (W.setCell ⟨w.heap.size, 2, none⟩ v) { I with scr := l } b r v dv := by
  refine ⟨h.below.setCell (by simp) _, heap_set_cell h.box 2 v, fun W' hW => ?_⟩
  have hk := Kp.ofSet h.below hW
  have hi := h.img W' hk
  exact ⟨hi.banks, hi.ram, hv.blk (fun b o n c e => by have := hvb b o n c e; exact hk.block b (by omega) this.2)⟩
theorem PIn.setBanks {w W : World} {I : Img} {b r s v : Value} {dv du : Nat → Value} {l : List (Int × List Int)} (h : PIn w W I b r s dv) (hv : BanksIn W v l du) (hvb : ∀ b o n c, v = .slice (some ⟨b, o, none⟩) n c → w.heap.size < b ∧ b < W.heap.size)
    (hdb : ∀ i, i < l.length → ∀ b o n c, du i = .slice (some ⟨b, o, none⟩) n c → w.heap.size < b ∧ b < W.heap.size) :
    PIn w (W.setCell ⟨w.heap.size, 0, none⟩ v) { I with banks := l } v r s du := by
  refine ⟨h.below.setCell (by simp) _, heap_set_cell h.box 0 v, fun W' hW => ?_⟩
  have hk := Kp.ofSet h.below hW
  have hi := h.img W' hk
  exact ⟨hv.blk (fun b o n c e => by have := hvb b o n c e; exact hk.block b (by omega) this.2) (fun i hl b o n c e => by have := hdb i hl b o n c e; exact hk.block b (by omega) this.2), hi.ram, hi.scr⟩

/-! ### a row of zeros that bytes are copied into -/
theorem made_at (z : Value) (n j : Nat) (hj : j < n) : (madeCells #[z] n)[j]? = some z := by simp [madeCells, hj, Nat.mod_one]
theorem made_size (z : Value) (n : Nat) : (madeCells #[z] n).size = n := size_madeCells _ _ |>.trans (by simp)
theorem pad_bytes {W : World} {g n : Nat} {l : List Int} (h : W.heap[g]? = some (.cells (splice (madeCells #[.int .u8 0] n).toList 0 ((byteCells l).take n)).toArray 5 (0, 0))) : BytesIn W (.slice (some ⟨g, 0, none⟩) n n) (padded l n) := by
  refine ⟨some ⟨g, 0, none⟩, n, by rw [padded_length], (fun e => by cases e), fun _ => ⟨g, 0, rfl, fun j hj => ?_⟩⟩
  rw [padded_length] at hj
  have hln : ((byteCells l).take n).length = min n l.length := by rw [List.length_take, byteCells_length, Nat.mul_one]
  rw [padded_at _ _ _ hj, Nat.zero_add, cell_of h, List.getElem?_toArray, splice_at _ _ _ (by rw [hln]; have h2 := made_size (.int .u8 0) n; rw [← Array.length_toList] at h2; omega), hln]
  by_cases e : j < l.length
  · rw [if_pos (by omega), Nat.sub_zero, List.getElem?_take, if_pos hj, byteCells_get _ _ e]
  · rw [if_neg (by omega), Array.getElem?_toList, made_at _ _ _ hj, List.getD_eq_getElem?_getD, List.getElem?_eq_none (by omega)]; rfl
theorem padded_isB {l : List Int} (h : IsBytes l) (n : Nat) : IsBytes (padded l n) := by
  intro x hx
  obtain ⟨j, _, rfl⟩ := List.mem_map.1 hx
  exact h.at_ j

/-! ### the loop over the banks -/
def padL (n0 : Nat) (l : List (Int × List Int)) : List (Int × List Int) := l.map fun p => (p.1, padded p.2 n0)
theorem padL_length (n0 : Nat) (l : List (Int × List Int)) : (padL n0 l).length = l.length := by simp [padL]
theorem padL_at (n0 : Nat) (l : List (Int × List Int)) (i : Nat) (hi : i < l.length) : (padL n0 l).getD i (0, []) = ((l.getD i (0, [])).1, padded (l.getD i (0, [])).2 n0) := by
  unfold padL
  rw [List.getD_eq_getElem?_getD, List.getElem?_map, List.getD_eq_getElem?_getD, List.getElem?_eq_getElem hi]; rfl

structure PdRel (w W : World) (n0 : Nat) (l : List (Int × List Int)) (k : Nat) (v : Value) (g c : Nat → Nat) : Prop where
  below : Below w.heap.size w W
  row : W.ownsRow w.heap.size 37 2 v k (bankCells (padL n0 l) g c k)
  data : ∀ i, i < k → BytesIn W (bankSl (padL n0 l) g c i) ((padL n0 l).getD i (0, [])).2 ∧ w.heap.size ≤ g i ∧ ∃ cs z, W.heap[g i]? = some (.cells cs 5 z)
theorem PdRel.start (w : World) (n0 : Nat) (l : List (Int × List Int)) : PdRel w w n0 l 0 (.slice none 0 0) (fun _ => 0) (fun _ => 0) := ⟨Below.refl _ _, World.ownsRow_nil _ _ _ _, fun i hi => by omega⟩
theorem PdRel.step {w wr W w3 : World} {n0 : Nat} {l : List (Int × List Int)} {k : Nat} {v v' : Value} {g c : Nat → Nat} {g' c' : Nat} (h : PdRel w wr n0 l k v g c) (hb : Below wr.heap.size wr W) (hkl : k < l.length)
    (hd : BytesIn W (.slice (some ⟨g', 0, none⟩) n0 c') (padded (l.getD k (0, [])).2 n0)) (hg' : wr.heap.size ≤ g') (hdB : ∃ cs z, W.heap[g']? = some (.cells cs 5 z))
    (h3 : W.grownBy w3 v.ownBlock) (hv' : w3.ownsRow w.heap.size 37 2 v' (k + 1) (bankCells (padL n0 l) g c k ++ [.int .i64 (l.getD k (0, [])).1, .slice (some ⟨g', 0, none⟩) n0 c'])) :
    PdRel w w3 n0 l (k + 1) v' (fun i => if i = k then g' else g i) (fun i => if i = k then c' else c i) := by
  have hpk := padL_at n0 l k hkl
  have row : ∀ b, v.ownBlock = some b → ∃ cs, wr.heap[b]? = some (.cells cs 37 (0, 0)) := fun b hb => by
    rcases h.row.2 with ⟨rfl, _⟩ | ⟨q, cap, cur, rfl, _, hh, _⟩
    · simp [Value.ownBlock] at hb
    · simp only [Value.ownBlock, Option.some.injEq] at hb
      subst hb; exact ⟨_, hh⟩
  have old : ∀ (b : Nat) (cs : Array Value) (z : Nat × Nat), W.heap[b]? = some (.cells cs 5 z) → w3.heap[b]? = W.heap[b]? := fun b cs z hh => by
    refine h3.block b (Array.getElem?_eq_some_iff.1 hh).1 (fun e => ?_)
    obtain ⟨cs', h4⟩ := row b e.symm
    rw [hb.block b (Array.getElem?_eq_some_iff.1 h4).1, h4] at hh
    exact cells_ne (by decide) (Option.some.inj hh)
  refine ⟨(h.below.trans (hb.mono h.below.size)).grown h3 (Nat.le_trans h.below.size hb.size) (fun q hq => (h.row.lt q hq).1), ?_, ?_⟩
  · have hl2 : ((padL n0 l).getD k (0, [])).2.length = n0 := by rw [hpk]; exact padded_length _ _
    have hl1 : ((padL n0 l).getD k (0, [])).1 = (l.getD k (0, [])).1 := by rw [hpk]
    rw [bankCells, bankCells_congr (padL n0 l) (g := g) (c := c) (fun i hi => by rw [if_neg (by omega), if_neg (by omega)]; exact ⟨rfl, rfl⟩), bankSl, if_pos rfl, if_pos rfl, hl2, hl1]
    exact hv'
  · intro i hi
    by_cases e : i = k
    · subst e
      have hl2 : ((padL n0 l).getD i (0, [])).2.length = n0 := by rw [hpk]; exact padded_length _ _
      rw [bankSl, if_pos rfl, if_pos rfl, hl2, hpk]
      obtain ⟨cs, z, hz⟩ := hdB
      have ho := old _ _ _ hz
      exact ⟨hd.blk (fun b o n c e => by cases e; exact ho), Nat.le_trans h.below.size hg', cs, z, ho.trans hz⟩
    · rw [bankSl, if_neg e, if_neg e]
      obtain ⟨q1, q2, cs, z, q3⟩ := h.data i (by omega)
      have q4 : W.heap[g i]? = some (.cells cs 5 z) := (hb.block _ (Array.getElem?_eq_some_iff.1 q3).1).trans q3
      have ho := old _ _ _ q4
      exact ⟨q1.blk (fun b o n c e => by cases e; exact ho.trans (q4.trans q3.symm)), q2, cs, z, ho.trans q4⟩
theorem PdRel.close {w W : World} {n0 : Nat} {l : List (Int × List Int)} {v : Value} {g c : Nat → Nat} (h : PdRel w W n0 l l.length v g c) (hB : ∀ i, i < l.length → IsBytes (l.getD i (0, [])).2) :
    BanksIn W v (padL n0 l) (bankSl (padL n0 l) g c) ∧ (∀ b o n c, v = .slice (some ⟨b, o, none⟩) n c → w.heap.size ≤ b ∧ b < W.heap.size) ∧ (∀ i, i < (padL n0 l).length → ∀ b o n c', bankSl (padL n0 l) g c i = .slice (some ⟨b, o, none⟩) n c' → w.heap.size ≤ b ∧ b < W.heap.size) := by
  have hlen := padL_length n0 l
  refine ⟨⟨?_, fun i hi => (h.data i (by omega)).1, fun i hi => ?_⟩, fun b o n c e => ?_, fun i hi b o n c' e => ?_⟩
  · rcases h.row.2 with ⟨rfl, h0⟩ | ⟨q, cap, cur, rfl, _, hq, _, _, _, hcur⟩
    · rw [hlen, h0]; exact ⟨_, _, rfl, fun h => absurd h (by decide)⟩
    · refine ⟨_, _, by rw [hlen], fun _ => ⟨q, 0, rfl, fun i hi => ?_⟩⟩
      have hget : ∀ j u, (bankCells (padL n0 l) g c l.length)[j]? = some u → W.cell? ⟨q, 0 + j, none⟩ = some u := by
        intro j u hj
        rw [Nat.zero_add, cell_of hq, ← Array.getElem?_toList]
        rw [← hcur, List.getElem?_take] at hj
        split at hj
        · exact hj
        · cases hj
      obtain ⟨a1, a2⟩ := bankCells_at (padL n0 l) g c l.length i (by omega)
      exact ⟨hget _ _ a1, by have := hget _ _ a2; rw [← Nat.add_assoc] at this; exact this⟩
  · rw [padL_at n0 l i (by omega)]
    exact padded_isB (hB i (by omega)) _
  · subst e
    exact h.row.lt b rfl
  · obtain ⟨_, q2, cs, z, q3⟩ := h.data i (by omega)
    unfold bankSl at e
    cases e
    exact ⟨q2, (Array.getElem?_eq_some_iff.1 q3).1⟩
end Go.Proofs.Ytabeljpnmmfpgaa
