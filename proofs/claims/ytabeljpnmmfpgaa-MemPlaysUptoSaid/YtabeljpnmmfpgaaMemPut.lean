/-
  A memory takes the other one's place, on both sides.
-/
import Derived.Test.YtabeljpnmmfpgaaMemPlaysA
import Derived.Test.YtabeljpnmmfpgaaMemCopy
import Derived.Test.YtabeljpnmmfpgaaRefCopy
namespace Go.Proofs.Ytabeljpnmmfpgaa
open Go.RowKit Go.MapKept
set_option linter.unusedVariables false
set_option linter.unusedSimpArgs false

theorem PairAt.put2 {W0 W2 : World} {q base k k' : Nat} {M : Nat → Mm} {b c : Nat → Nat} {S T : Nat → Nat → Prop} (h : PairAt W0 q base k M b c S T) {j : Nat} (hj : j < 2) {M' : Mm} {b' c' : Nat} {S' T' : Nat → Prop}
    (hobj : W2.heap[q]? = some (.cells #[ptr (if 0 = j then b' else b 0), ptr (if 1 = j then b' else b 1), ptr (if 0 = j then c' else c 0), ptr (if 1 = j then c' else c 1)] 73 (0, 0)))
    (hu : Upd W0 W2 (fun x => x = q)) (hS : MemRep W2 b' M' S') (hT : RefRep W2 c' M' T') (hSn : ∀ x, S' x → W0.heap.size ≤ x) (hTn : ∀ x, T' x → W0.heap.size ≤ x) (hd : ∀ x, S' x → ¬ T' x) (hk : k ≤ k') (ht : M'.tones.length ≤ k') (hc : M'.chosen < 16) :
    ∃ (M2 : Nat → Mm) (b2 c2 : Nat → Nat) (S2 T2 : Nat → Nat → Prop), PairAt W2 q base k' M2 b2 c2 S2 T2 := by
  have hql := heap_lt h.obj
  have nqS : ¬ S' q := fun hx => by have := hSn q hx; omega
  have nqT : ¬ T' q := fun hx => by have := hTn q hx; omega
  have hlow := h.low
  have ol : ∀ {i x}, i < 2 → S i x → x < W0.heap.size := fun hi hx => h.slt hi hx
  have tl : ∀ {i x}, i < 2 → T i x → x < W0.heap.size := fun hi hx => h.tlt hi hx
  refine ⟨fun i => if i = j then M' else M i, fun i => if i = j then b' else b i, fun i => if i = j then c' else c i, fun i => if i = j then S' else S i, fun i => if i = j then T' else T i, ?_⟩
  refine { obj := hobj, mem := ?_, ref := ?_, tones := ?_, ch := ?_, ss := ?_, tt := ?_, st := ?_, nq := ?_, low := ⟨hlow.1, ?_⟩ }
  · intro i hi
    by_cases e : i = j
    · simp only [if_pos e]; exact hS
    · simp only [if_neg e]; exact (h.mem i hi).stays (fun x hx => hu.block x (ol hi hx) (fun e' => (h.nq i hi).1 (e' ▸ hx)))
  · intro i hi
    by_cases e : i = j
    · simp only [if_pos e]; exact hT
    · simp only [if_neg e]; exact (h.ref i hi).stays (fun x hx => hu.block x (tl hi hx) (fun e' => (h.nq i hi).2 (e' ▸ hx)))
  · intro i hi
    by_cases e : i = j
    · simp only [if_pos e]; exact ht
    · simp only [if_neg e]; exact Nat.le_trans (h.tones i hi) hk
  · intro i hi
    by_cases e : i = j
    · simp only [if_pos e]; exact hc
    · simp only [if_neg e]; exact h.ch i hi
  · intro i l hi hl hne x hx hx'
    by_cases e : i = j <;> by_cases e2 : l = j
    · omega
    · simp only [if_pos e] at hx; simp only [if_neg e2] at hx'
      have := hSn x hx; have := ol hl hx'; omega
    · simp only [if_neg e] at hx; simp only [if_pos e2] at hx'
      have := hSn x hx'; have := ol hi hx; omega
    · simp only [if_neg e] at hx; simp only [if_neg e2] at hx'
      exact h.ss i l hi hl hne x hx hx'
  · intro i l hi hl hne x hx hx'
    by_cases e : i = j <;> by_cases e2 : l = j
    · omega
    · simp only [if_pos e] at hx; simp only [if_neg e2] at hx'
      have := hTn x hx; have := tl hl hx'; omega
    · simp only [if_neg e] at hx; simp only [if_pos e2] at hx'
      have := hTn x hx'; have := tl hi hx; omega
    · simp only [if_neg e] at hx; simp only [if_neg e2] at hx'
      exact h.tt i l hi hl hne x hx hx'
  · intro i l hi hl x hx hx'
    by_cases e : i = j <;> by_cases e2 : l = j
    · simp only [if_pos e] at hx; simp only [if_pos e2] at hx'
      exact hd x hx hx'
    · simp only [if_pos e] at hx; simp only [if_neg e2] at hx'
      have := hSn x hx; have := tl hl hx'; omega
    · simp only [if_neg e] at hx; simp only [if_pos e2] at hx'
      have := hTn x hx'; have := ol hi hx; omega
    · simp only [if_neg e] at hx; simp only [if_neg e2] at hx'
      exact h.st i l hi hl x hx hx'
  · intro i hi
    by_cases e : i = j
    · simp only [if_pos e]; exact ⟨nqS, nqT⟩
    · simp only [if_neg e]; exact h.nq i hi
  · intro i hi x hx
    by_cases e : i = j
    · simp only [if_pos e] at hx
      rcases hx with hx | hx
      · have := hSn x hx; omega
      · have := hTn x hx; omega
    · simp only [if_neg e] at hx; exact hlow.2 i hi x hx

/-- The pair's cells, one of them written. -/
theorem pair_cells {W : World} {q : Nat} {v0 v1 v2 v3 : Value} (h : W.heap[q]? = some (.cells #[v0, v1, v2, v3] 73 (0, 0))) :
    W.cell? ⟨q, 0, none⟩ = some v0 ∧ W.cell? ⟨q, 1, none⟩ = some v1 ∧ W.cell? ⟨q, 2, none⟩ = some v2 ∧ W.cell? ⟨q, 3, none⟩ = some v3 ∧ ∀ j, W.frozen? ⟨q, j, none⟩ = false := by
  refine ⟨?_, ?_, ?_, ?_, fun j => free_of h j⟩ <;> (rw [cell_of h]; rfl)

/-- What a copy, or a restored memory, is: in blocks made meanwhile. -/
def MemNew (W w : World) (b : Nat) (M : Mm) : Prop := ∃ S, MemRep w b M S ∧ ∀ x, S x → W.heap.size ≤ x ∧ x < w.heap.size
def RefNew (W w : World) (b : Nat) (M : Mm) : Prop := ∃ S, RefRep w b M S ∧ ∀ x, S x → W.heap.size ≤ x ∧ x < w.heap.size
theorem MemNew.keep {W w w' : World} {b q : Nat} {M : Mm} (h : MemNew W w b M) (hu : Upd w w' (fun x => x = q)) (hq : q < W.heap.size) : MemNew W w' b M := by
  obtain ⟨S, h1, h2⟩ := h
  exact ⟨S, h1.stays (fun x hx => hu.block x (h2 x hx).2 (fun e => by have := (h2 x hx).1; omega)), fun x hx => ⟨(h2 x hx).1, Nat.lt_of_lt_of_le (h2 x hx).2 hu.size⟩⟩
theorem RefNew.keep {W w w' : World} {b q : Nat} {M : Mm} (h : RefNew W w b M) (hu : Upd w w' (fun x => x = q)) (hq : q < W.heap.size) : RefNew W w' b M := by
  obtain ⟨S, h1, h2⟩ := h
  exact ⟨S, h1.stays (fun x hx => hu.block x (h2 x hx).2 (fun e => by have := (h2 x hx).1; omega)), fun x hx => ⟨(h2 x hx).1, Nat.lt_of_lt_of_le (h2 x hx).2 hu.size⟩⟩

/-- Both are in place: the pair again. -/
theorem PlayHead.put {W wb wm w2 : World} {q base k : Nat} {M : Nat → Mm} {b c : Nat → Nat} {S T : Nat → Nat → Prop} {o : Opv} (h : PlayHead W wb q base k M b c S T o) {j : Nat} (hj : j < 2) {M' : Mm} {b' c' : Nat} (hr : RefNew wm w2 c' M')
    (hobj : w2.heap[q]? = some (.cells #[ptr (if 0 = j then b' else b 0), ptr (if 1 = j then b' else b 1), ptr (if 0 = j then c' else c 0), ptr (if 1 = j then c' else c 1)] 73 (0, 0)))
    (hu : Upd wb w2 (fun x => x = q)) (hmm : ∃ S', MemRep w2 b' M' S' ∧ (∀ x, S' x → wb.heap.size ≤ x ∧ x < wm.heap.size)) (hwm : wb.heap.size ≤ wm.heap.size) (ht : M'.tones.length ≤ k + 3) (hc : M'.chosen < 16) : PlayPost W q base k (.returned (.bool true)) w2 := by
  obtain ⟨S', s1, s2⟩ := hmm
  obtain ⟨T', t1, t2⟩ := hr
  obtain ⟨M2, b2, c2, S2, T2, hP⟩ := h.pair.put2 hj hobj hu s1 t1 (fun x hx => (s2 x hx).1) (fun x hx => by have := (t2 x hx).1; omega) (fun x hx hx' => by have := (s2 x hx).2; have := (t2 x hx').1; omega) (k' := k + 3) (by omega) ht hc
  refine ⟨rfl, ⟨M2, b2, c2, S2, T2, hP⟩, (Upd.of_below h.below _).trans (hu.mono (fun x _ e => ?_)) (fun _ _ h => h)⟩
  rw [e]; exact h.pair.low.1

/-- The program's memory has been put in place: the pair's block. -/
theorem PlayHead.half {W wb wd w1 : World} {q base k : Nat} {M : Nat → Mm} {b c : Nat → Nat} {S T : Nat → Nat → Prop} {o : Opv} (h : PlayHead W wb q base k M b c S T o) {j : Nat} (hj : j < 2) {b' : Nat} (hq0 : Quiet wb wd) (B1 : Below wd.heap.size wd w1) :
    (w1.setCell ⟨q, j, none⟩ (ptr b')).heap[q]? = some (.cells #[ptr (if 0 = j then b' else b 0), ptr (if 1 = j then b' else b 1), ptr (c 0), ptr (c 1)] 73 (0, 0)) ∧ ∀ i, i < 2 → RefRep (w1.setCell ⟨q, j, none⟩ (ptr b')) (c i) (M i) (T i) := by
  have hP := (h.next hq0.below).next B1
  refine ⟨?_, fun i hi => (hP.pair.ref i hi).stays (fun x hx => heap_set_far (fun e => (hP.pair.nq i hi).2 (e ▸ hx)))⟩
  rw [heap_set_cell hP.pair.obj j (ptr b')]
  have : j = 0 ∨ j = 1 := by omega
  rcases this with rfl | rfl <;> rfl

theorem PlayHead.copyFin {W wb wd w1 wm w2 : World} {q base k : Nat} {M : Nat → Mm} {b c : Nat → Nat} {S T : Nat → Nat → Prop} {o : Opv} (h : PlayHead W wb q base k M b c S T o) {j : Nat} (hj : j < 2) {b' c' : Nat} {M' : Mm} (hq0 : Quiet wb wd) (M1 : MemNew wd w1 b' M') (B1 : Below wd.heap.size wd w1)
    (hqm : Quiet (w1.setCell ⟨q, j, none⟩ (ptr b')) wm) (M2 : RefNew wm w2 c' M') (B2 : Below wm.heap.size wm w2) (ht : M'.tones.length ≤ k + 3) (hc : M'.chosen < 16) :
    w2.heap[q]? = some (.cells #[ptr (if 0 = j then b' else b 0), ptr (if 1 = j then b' else b 1), ptr (c 0), ptr (c 1)] 73 (0, 0)) ∧ Hid (PlayPost W q base k (.returned (.bool true)) (w2.setCell ⟨q, 2 + j, none⟩ (ptr c'))) := by
  obtain ⟨ho, _⟩ := h.half hj (b' := b') hq0 B1
  have eb : Below wb.heap.size wb w1 := hq0.below.trans (by rw [← hq0.heap]; exact B1)
  have zb := eb.size
  have hql : q < wb.heap.size := heap_lt h.pair.obj
  have hm : wm.heap = (w1.setCell ⟨q, j, none⟩ (ptr b')).heap := hqm.heap
  have hz : wm.heap.size = w1.heap.size := by rw [hm]; simp [World.setCell]
  have z2 := B2.size
  have o2 : w2.heap[q]? = some (.cells #[ptr (if 0 = j then b' else b 0), ptr (if 1 = j then b' else b 1), ptr (c 0), ptr (c 1)] 73 (0, 0)) := by
    rw [B2.block q (by omega), hm]; exact ho
  refine ⟨o2, ?_⟩
  have u1 : Upd w1 wm (fun x => x = q) := ((Upd.refl w1 (fun x => x = q)).setCell (p := ⟨q, j, none⟩) (fun _ => rfl) _).trans (hqm.upd (fun x => x = q)) (fun _ _ h => h)
  have u2 : Upd wm w2 (fun x => x = q) := Upd.of_below B2 _
  have u3 : Upd w2 (w2.setCell ⟨q, 2 + j, none⟩ (ptr c')) (fun x => x = q) := (Upd.refl w2 (fun x => x = q)).setCell (p := ⟨q, 2 + j, none⟩) (fun _ => rfl) _
  have u14 := (u1.trans u2 (fun _ _ h => h)).trans u3 (fun _ _ h => h)
  have e0 : wd.heap.size = wb.heap.size := by rw [hq0.heap]
  obtain ⟨S', s1, s2⟩ := M1
  refine h.put hj (wm := wm) (M' := M') (b' := b') (c' := c') (M2.keep u3 (by omega)) ?_ ((Upd.of_below eb _).trans u14 (fun _ _ h => h)) ⟨S', s1.stays (fun x hx => u14.block x (s2 x hx).2 (fun e => by have := (s2 x hx).1; omega)), fun x hx => ⟨by have := (s2 x hx).1; omega, by have := (s2 x hx).2; omega⟩⟩ (by omega) ht hc
  rw [heap_set_cell o2 (2 + j) (ptr c')]
  have : j = 0 ∨ j = 1 := by omega
  rcases this with rfl | rfl <;> rfl
end Go.Proofs.Ytabeljpnmmfpgaa
