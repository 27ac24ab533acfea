/-
  The two memories on both sides, as the heap holds them: what a step at one of them leaves.
-/
import Derived.Test.YtabeljpnmmfpgaaMemStore2
import Derived.Test.YtabeljpnmmfpgaaRefDef
namespace Go.Proofs.Ytabeljpnmmfpgaa
open Go.RowKit Go.MapKept
set_option linter.unusedVariables false
set_option linter.unusedSimpArgs false

def ptr (b : Nat) : Value := .pointer (some ⟨b, 0, none⟩)

structure PairAt (W : World) (q base k : Nat) (M : Nat → Mm) (b c : Nat → Nat) (S T : Nat → Nat → Prop) : Prop where
  obj : W.heap[q]? = some (.cells #[ptr (b 0), ptr (b 1), ptr (c 0), ptr (c 1)] 73 (0, 0))
  mem : ∀ i, i < 2 → MemRep W (b i) (M i) (S i)
  ref : ∀ i, i < 2 → RefRep W (c i) (M i) (T i)
  tones : ∀ i, i < 2 → (M i).tones.length ≤ k
  ch : ∀ i, i < 2 → (M i).chosen < 16
  ss : ∀ i j, i < 2 → j < 2 → i ≠ j → ∀ x, S i x → ¬ S j x
  tt : ∀ i j, i < 2 → j < 2 → i ≠ j → ∀ x, T i x → ¬ T j x
  st : ∀ i j, i < 2 → j < 2 → ∀ x, S i x → ¬ T j x
  nq : ∀ i, i < 2 → ¬ S i q ∧ ¬ T i q
  low : base ≤ q ∧ ∀ i, i < 2 → ∀ x, S i x ∨ T i x → base ≤ x

section
variable {W : World} {q base k : Nat} {M : Nat → Mm} {b c : Nat → Nat} {S T : Nat → Nat → Prop}

theorem PairAt.slt (h : PairAt W q base k M b c S T) {i : Nat} (hi : i < 2) {x : Nat} (hx : S i x) : x < W.heap.size := (h.mem i hi).lt x hx
theorem PairAt.tlt (h : PairAt W q base k M b c S T) {i : Nat} (hi : i < 2) {x : Nat} (hx : T i x) : x < W.heap.size := (h.ref i hi).lt x hx

theorem PairAt.below (h : PairAt W q base k M b c S T) {W' : World} (hb : Below W.heap.size W W') : PairAt W' q base k M b c S T :=
  { h with obj := (hb.block _ (heap_lt h.obj)).trans h.obj, mem := fun i hi => (h.mem i hi).stays (fun x hx => hb.block x (h.slt hi hx)), ref := fun i hi => (h.ref i hi).stays (fun x hx => hb.block x (h.tlt hi hx)) }

/-- The program's memory has done its step: the document's still stands, and so does all else. -/
theorem PairAt.one (h : PairAt W q base k M b c S T) {i : Nat} (hi : i < 2) {W1 : World} {M' : Mm} (hd : MemDone W W1 (b i) M' (S i)) :
    RefRep W1 (c i) (M i) (T i) ∧ ∀ x, x < W.heap.size → ¬ S i x → W1.heap[x]? = W.heap[x]? :=
  ⟨(h.ref i hi).stays (fun x hx => hd.upd.block x (h.tlt hi hx) (fun hs => h.st i i hi hi x hs hx)), fun x hx hs => hd.upd.block x hx hs⟩

theorem PairAt.two (h : PairAt W q base k M b c S T) {i : Nat} (hi : i < 2) {W1 W2 : World} {M' : Mm} (hd : MemDone W W1 (b i) M' (S i)) (hr : RefDone W1 W2 (c i) M' (T i)) {k' : Nat} (hk : k ≤ k') (ht : M'.tones.length ≤ k') (hc : M'.chosen < 16) :
    (∃ (M2 : Nat → Mm) (S2 T2 : Nat → Nat → Prop), PairAt W2 q base k' M2 b c S2 T2) ∧ Upd W W2 (fun x => base ≤ x) := by
  obtain ⟨S', hS', hSn⟩ := hd.rep
  obtain ⟨T', hT', hTn⟩ := hr.rep
  have z1 := hd.upd.size
  have z2 := hr.upd.size
  have hql := heap_lt h.obj
  have blk : ∀ x, x < W.heap.size → ¬ S i x → ¬ T i x → W2.heap[x]? = W.heap[x]? := fun x hx h1 h2 => (hr.upd.block x (by omega) h2).trans (hd.upd.block x hx h1)
  have sW1 : ∀ x, S' x → W2.heap[x]? = W1.heap[x]? := fun x hx => hr.upd.block x (hS'.lt x hx) (fun ht => by
    rcases hSn x hx with h1 | h1
    · exact h.st i i hi hi x h1 ht
    · have := h.tlt hi ht; omega)
  have hlow := h.low
  refine ⟨⟨fun j => if j = i then M' else M j, fun j => if j = i then S' else S j, fun j => if j = i then T' else T j, ?_⟩, ?_⟩
  · have sn : ∀ {x}, S' x → S i x ∨ W.heap.size ≤ x ∧ x < W1.heap.size := fun hx => (hSn _ hx).imp id (fun e => ⟨e, hS'.lt _ hx⟩)
    have tn : ∀ {x}, T' x → T i x ∨ W1.heap.size ≤ x := fun hx => hTn _ hx
    refine { obj := ?_, mem := ?_, ref := ?_, tones := ?_, ch := ?_, ss := ?_, tt := ?_, st := ?_, nq := ?_, low := ⟨hlow.1, ?_⟩ }
    · rw [blk q hql (h.nq i hi).1 (h.nq i hi).2]; exact h.obj
    · intro j hj
      by_cases e : j = i
      · subst e; simp only [if_true]; exact hS'.stays sW1
      · simp only [if_neg e]
        exact (h.mem j hj).stays (fun x hx => blk x (h.slt hj hx) (h.ss j i hj hi e x hx) (h.st j i hj hi x hx))
    · intro j hj
      by_cases e : j = i
      · subst e; simp only [if_true]; exact hT'
      · simp only [if_neg e]
        exact (h.ref j hj).stays (fun x hx => blk x (h.tlt hj hx) (fun hs => h.st i j hi hj x hs hx) (h.tt j i hj hi e x hx))
    · intro j hj
      by_cases e : j = i
      · simp only [if_pos e]; exact ht
      · simp only [if_neg e]; exact Nat.le_trans (h.tones j hj) hk
    · intro j hj
      by_cases e : j = i
      · simp only [if_pos e]; exact hc
      · simp only [if_neg e]; exact h.ch j hj
    · intro j l hj hl hne x hx hx'
      by_cases e : j = i <;> by_cases e2 : l = i
      · omega
      · simp only [if_pos e] at hx; simp only [if_neg e2] at hx'
        rcases sn hx with h1 | h1
        · exact h.ss i l hi hl (by omega) x h1 hx'
        · have := h.slt hl hx'; omega
      · simp only [if_neg e] at hx; simp only [if_pos e2] at hx'
        rcases sn hx' with h1 | h1
        · exact h.ss i j hi hj (by omega) x h1 hx
        · have := h.slt hj hx; omega
      · simp only [if_neg e] at hx; simp only [if_neg e2] at hx'
        exact h.ss j l hj hl hne x hx hx'
    · intro j l hj hl hne x hx hx'
      by_cases e : j = i <;> by_cases e2 : l = i
      · omega
      · simp only [if_pos e] at hx; simp only [if_neg e2] at hx'
        rcases tn hx with h1 | h1
        · exact h.tt i l hi hl (by omega) x h1 hx'
        · have := h.tlt hl hx'; omega
      · simp only [if_neg e] at hx; simp only [if_pos e2] at hx'
        rcases tn hx' with h1 | h1
        · exact h.tt i j hi hj (by omega) x h1 hx
        · have := h.tlt hj hx; omega
      · simp only [if_neg e] at hx; simp only [if_neg e2] at hx'
        exact h.tt j l hj hl hne x hx hx'
    · intro j l hj hl x hx hx'
      by_cases e : j = i <;> by_cases e2 : l = i
      · simp only [if_pos e] at hx; simp only [if_pos e2] at hx'
        rcases sn hx with h1 | h1 <;> rcases tn hx' with h2 | h2
        · exact h.st i i hi hi x h1 h2
        · have := h.slt hi h1; omega
        · have := h.tlt hi h2; omega
        · omega
      · simp only [if_pos e] at hx; simp only [if_neg e2] at hx'
        rcases sn hx with h1 | h1
        · exact h.st i l hi hl x h1 hx'
        · have := h.tlt hl hx'; omega
      · simp only [if_neg e] at hx; simp only [if_pos e2] at hx'
        rcases tn hx' with h1 | h1
        · exact h.st j i hj hi x hx h1
        · have := h.slt hj hx; omega
      · simp only [if_neg e] at hx; simp only [if_neg e2] at hx'
        exact h.st j l hj hl x hx hx'
    · intro j hj
      by_cases e : j = i
      · simp only [if_pos e]
        refine ⟨fun hx => ?_, fun hx => ?_⟩
        · rcases sn hx with h1 | h1
          · exact (h.nq i hi).1 h1
          · omega
        · rcases tn hx with h1 | h1
          · exact (h.nq i hi).2 h1
          · omega
      · simp only [if_neg e]; exact h.nq j hj
    · intro j hj x hx
      by_cases e : j = i
      · simp only [if_pos e] at hx
        rcases hx with hx | hx
        · rcases sn hx with h1 | h1
          · exact hlow.2 i hi x (.inl h1)
          · omega
        · rcases tn hx with h1 | h1
          · exact hlow.2 i hi x (.inr h1)
          · omega
      · simp only [if_neg e] at hx
        exact hlow.2 j hj x hx
  · exact (hd.upd.mono (fun x _ hx => hlow.2 i hi x (.inl hx))).trans (hr.upd.mono (fun x _ hx => hlow.2 i hi x (.inr hx))) (fun _ _ h => h)

end

/-- A step's seven fields in their box. -/
structure Opv where
  kind : Int
  which : Int
  at_ : Int
  x : Int
  y : Int
  c : Int
  n : Int
def Opv.cells (o : Opv) : Array Value := #[.int .i64 o.kind, .int .i64 o.which, .int .u16 o.at_, .int .u16 o.x, .int .u16 o.y, .int .u16 o.c, .int .i64 o.n]
structure Opv.Ok (o : Opv) : Prop where
  at_ : 0 ≤ o.at_ ∧ o.at_ < 65536
  x : 0 ≤ o.x ∧ o.x < 65536
  y : 0 ≤ o.y ∧ o.y < 65536
  c : 0 ≤ o.c ∧ o.c < 65536

theorem box7 {W : World} {B : Nat} {o : Opv} (h : W.heap[B]? = some (.cells o.cells 76 (0, 0))) :
    W.cell? ⟨B, 0, none⟩ = some (.int .i64 o.kind) ∧ W.cell? ⟨B, 1, none⟩ = some (.int .i64 o.which) ∧ W.cell? ⟨B, 2, none⟩ = some (.int .u16 o.at_) ∧ W.cell? ⟨B, 3, none⟩ = some (.int .u16 o.x) ∧ W.cell? ⟨B, 4, none⟩ = some (.int .u16 o.y) ∧ W.cell? ⟨B, 5, none⟩ = some (.int .u16 o.c) ∧ W.cell? ⟨B, 6, none⟩ = some (.int .i64 o.n) := by
  refine ⟨?_, ?_, ?_, ?_, ?_, ?_, ?_⟩ <;> (rw [cell_of h]; rfl)

theorem PairAt.slots {W : World} {q base k : Nat} {M : Nat → Mm} {b c : Nat → Nat} {S T : Nat → Nat → Prop} (h : PairAt W q base k M b c S T) {i : Nat} (hi : i < 2) : W.cell? ⟨q, i, none⟩ = some (.pointer (some ⟨b i, 0, none⟩)) ∧ W.cell? ⟨q, 2 + i, none⟩ = some (.pointer (some ⟨c i, 0, none⟩)) := by
  have : i = 0 ∨ i = 1 := by omega
  rw [cell_of h.obj, cell_of h.obj]
  rcases this with rfl | rfl <;> exact ⟨rfl, rfl⟩

theorem which_cases (x : Int) : (x.tmod 2 = -1 ∧ (1 : Int) = ((1 : Nat) : Int)) ∨ x.tmod 2 = 0 ∨ x.tmod 2 = 1 := by
  have h1 := Int.tmod_lt_of_pos x (show (0 : Int) < 2 by omega)
  have h2 := Int.lt_tmod_of_pos x (show (0 : Int) < 2 by omega)
  omega
end Go.Proofs.Ytabeljpnmmfpgaa
