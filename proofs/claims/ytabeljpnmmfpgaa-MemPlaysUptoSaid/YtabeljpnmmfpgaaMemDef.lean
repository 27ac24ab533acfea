/-
  The memory of package mem as the heap holds it, told by a plain record.
-/
import Derived.Test.YtabeljpnmmfpgaaBase
import Derived.Test.YtabeljpnmmfpgaaProg
namespace Go.Proofs.Ytabeljpnmmfpgaa
open Go.RowKit Go.MapKept
set_option linter.unusedVariables false

structure Mm where
  bank : Int → Option (Nat → Int)
  ram : Nat → Int
  scr : Nat → Int
  chosen : Int
  pad : Int
  volume : Int
  pitch : Int
  time : Int
  cycle : Int
  tones : List (Int × Int × Int)

def Mm.cell (M : Mm) (bm : Nat) (tv : Value) (k : Nat) : Value :=
  if k = 0 then .map (some bm) else if k < 16385 then .int .u8 (M.ram (k - 1)) else if k < 19457 then .int .u8 (M.scr (k - 16385))
  else if k = 19457 then .int .u8 M.chosen else if k = 19458 then .int .u8 M.pad else if k = 19459 then .int .u8 M.volume
  else if k = 19460 then .int .u16 M.pitch else if k = 19461 then .int .u16 M.time else if k = 19462 then .int .i64 M.cycle else tv

structure Mm.Ok (M : Mm) : Prop where
  bank : ∀ n g, M.bank n = some g → ∀ i, 0 ≤ g i ∧ g i < 256
  ram : ∀ i, 0 ≤ M.ram i ∧ M.ram i < 256
  scr : ∀ i, 0 ≤ M.scr i ∧ M.scr i < 256
  chosen : 0 ≤ M.chosen ∧ M.chosen < 256
  pad : 0 ≤ M.pad ∧ M.pad < 256
  volume : 0 ≤ M.volume ∧ M.volume < 256
  pitch : 0 ≤ M.pitch ∧ M.pitch < 65536
  time : 0 ≤ M.time ∧ M.time < 65536

def toneCells (l : List (Int × Int × Int)) : List Value := l.flatMap fun t => [.int .i64 t.1, .int .u16 t.2.1, .int .u8 t.2.2]

structure MemAt (w : World) (b : Nat) (M : Mm) (S : Nat → Prop) (cs : Array Value) (bm : Nat) (es : Array MapEntry) (clk : Nat) (bf : Int → Option Nat) (tv : Value) : Prop where
  ok : M.Ok
  blk : w.heap[b]? = some (.cells cs 87 (0, 0))
  sz : cs.size = 19464
  cell : ∀ k, k < 19464 → cs[k]? = some (M.cell bm tv k)
  map : w.heap[bm]? = some (.map es clk)
  imap : IMap .u8 es clk (fun n => (bf n).map fun x => .pointer (some ⟨x, 0, none⟩))
  gone : ∀ n, bf n = none → M.bank n = none
  bank : ∀ n x, bf n = some x → ∃ bs g, M.bank n = some g ∧ w.heap[x]? = some (.cells bs 89 (0, 0)) ∧ bs.size = 16384 ∧ ∀ i, i < 16384 → bs[i]? = some (.int .u8 (g i))
  inj : ∀ n m x, bf n = some x → bf m = some x → n = m
  tones : w.ownsRow 0 92 3 tv M.tones.length (toneCells M.tones)
  sb : S b
  sm : S bm
  sx : ∀ n x, bf n = some x → S x
  st : ∀ k, tv.ownBlock = some k → S k
  lt : ∀ i, S i → i < w.heap.size

def MemRep (w : World) (b : Nat) (M : Mm) (S : Nat → Prop) : Prop := ∃ cs bm es clk bf tv, MemAt w b M S cs bm es clk bf tv

def Quiet (w w' : World) : Prop := ∃ n, w' = w.drewN n
theorem Quiet.refl (w : World) : Quiet w w := ⟨0, rfl⟩
theorem Quiet.trans {a b c : World} (h : Quiet a b) (k : Quiet b c) : Quiet a c := by
  obtain ⟨n, rfl⟩ := h; obtain ⟨m, rfl⟩ := k
  exact ⟨n + m, by simp [World.drewN, Nat.add_assoc]⟩
theorem Quiet.heap {a b : World} (h : Quiet a b) : b.heap = a.heap := by obtain ⟨n, rfl⟩ := h; rfl
theorem Quiet.upd {a b : World} (h : Quiet a b) (S : Nat → Prop) : Upd a b S := by obtain ⟨n, rfl⟩ := h; exact (Upd.refl a S).drewN n

theorem ownsRow_heap {w w' : World} {base : Nat} {e : TypeId} {size : Nat} {v : Value} {n : Nat} {xs : List Value} (h : w.ownsRow base e size v n xs) (hb : ∀ k, v.ownBlock = some k → w'.heap[k]? = w.heap[k]?) : w'.ownsRow base e size v n xs := by
  obtain ⟨h1, h2⟩ := h
  refine ⟨h1, ?_⟩
  rcases h2 with h2 | ⟨g, cap, cur, rfl, hg, hh, r⟩
  · exact .inl h2
  · exact .inr ⟨g, cap, cur, rfl, hg, by rw [hb g rfl]; exact hh, r⟩

/-- A memory's reading hangs on its own blocks alone. -/
theorem MemRep.stays {w w' : World} {b : Nat} {M : Mm} {S : Nat → Prop} (h : MemRep w b M S) (hs : ∀ i, S i → w'.heap[i]? = w.heap[i]?) : MemRep w' b M S := by
  obtain ⟨cs, bm, es, clk, bf, tv, H⟩ := h
  refine ⟨cs, bm, es, clk, bf, tv, { H with blk := ?_, map := ?_, bank := ?_, tones := ?_, lt := ?_ }⟩
  · rw [hs b H.sb]; exact H.blk
  · rw [hs bm H.sm]; exact H.map
  · intro n x hx
    obtain ⟨bs, g, h1, h2, h3⟩ := H.bank n x hx
    exact ⟨bs, g, h1, by rw [hs x (H.sx n x hx)]; exact h2, h3⟩
  · exact ownsRow_heap H.tones (fun k hk => hs k (H.st k hk))
  · intro i hi
    have := H.lt i hi
    have h2 := hs i hi
    rw [Array.getElem?_eq_getElem this] at h2
    exact (Array.getElem?_eq_some_iff.1 h2).1

theorem MemRep.lt {w : World} {b : Nat} {M : Mm} {S : Nat → Prop} (h : MemRep w b M S) : ∀ i, S i → i < w.heap.size := by
  obtain ⟨cs, bm, es, clk, bf, tv, H⟩ := h; exact H.lt
theorem MemRep.quiet {w w' : World} {b : Nat} {M : Mm} {S : Nat → Prop} (h : MemRep w b M S) (q : Quiet w w') : MemRep w' b M S := h.stays (fun i _ => by rw [q.heap])
theorem MemRep.upd {w w' : World} {b : Nat} {M : Mm} {S T : Nat → Prop} (h : MemRep w b M S) (u : Upd w w' T) (hd : ∀ i, S i → ¬ T i) : MemRep w' b M S :=
  h.stays (fun i hi => u.block i (h.lt i hi) (hd i hi))

/-- What a cell holds, in the walk's words. -/
theorem MemAt.at_ {w : World} {b : Nat} {M : Mm} {S : Nat → Prop} {cs : Array Value} {bm : Nat} {es : Array MapEntry} {clk : Nat} {bf : Int → Option Nat} {tv : Value} (h : MemAt w b M S cs bm es clk bf tv) (k : Nat) (hk : k < 19464) : w.cell? ⟨b, k, none⟩ = some (M.cell bm tv k) := by
  rw [cell_of h.blk, h.cell k hk]
theorem MemAt.free {w : World} {b : Nat} {M : Mm} {S : Nat → Prop} {cs : Array Value} {bm : Nat} {es : Array MapEntry} {clk : Nat} {bf : Int → Option Nat} {tv : Value} (h : MemAt w b M S cs bm es clk bf tv) (k : Nat) : w.frozen? ⟨b, k, none⟩ = false := free_of h.blk k

theorem Mm.cell_ram (M : Mm) (bm : Nat) (tv : Value) {i : Nat} (h : i < 16384) : M.cell bm tv (1 + i) = .int .u8 (M.ram i) := by
  unfold Mm.cell; rw [if_neg (by omega), if_pos (by omega), show 1 + i - 1 = i by omega]
theorem Mm.cell_scr (M : Mm) (bm : Nat) (tv : Value) {i : Nat} (h : i < 3072) : M.cell bm tv (16385 + i) = .int .u8 (M.scr i) := by
  unfold Mm.cell; rw [if_neg (by omega), if_neg (by omega), if_pos (by omega), show 16385 + i - 16385 = i by omega]

/-- One cell of the object itself is written, the map and the tones' slice not. -/
theorem MemAt.set {w : World} {b : Nat} {M : Mm} {S : Nat → Prop} {cs : Array Value} {bm : Nat} {es : Array MapEntry} {clk : Nat} {bf : Int → Option Nat} {tv : Value} (h : MemAt w b M S cs bm es clk bf tv) (k : Nat) (hk : k < 19464) (v : Value) (M' : Mm)
    (hok : M'.Ok) (hc : ∀ j, j < 19464 → M'.cell bm tv j = if j = k then v else M.cell bm tv j) (hbank : M'.bank = M.bank) (htones : M'.tones = M.tones) :
    MemAt (w.setCell ⟨b, k, none⟩ v) b M' S (cs.setIfInBounds k v) bm es clk bf tv := by
  have far : ∀ {i : Nat} {o : Obj}, w.heap[i]? = some o → (∀ c z, o ≠ .cells c 87 z) → (w.setCell ⟨b, k, none⟩ v).heap[i]? = some o := fun {i o} hi ho => by
    rw [heap_set_far (heap_ne hi h.blk (ho _ _))]; exact hi
  refine { ok := hok, blk := heap_set_cell h.blk k v, sz := by simp [h.sz], cell := ?_, map := far h.map (by simp), imap := h.imap, gone := by rw [hbank]; exact h.gone, bank := ?_, inj := h.inj, tones := ?_, sb := h.sb, sm := h.sm, sx := h.sx, st := h.st, lt := by simpa [World.setCell] using h.lt }
  · intro j hj
    rw [hc j hj, Array.getElem?_setIfInBounds]
    by_cases e : k = j
    · subst e; simp [h.sz, hj]
    · rw [if_neg e, if_neg (fun e' => e e'.symm)]; exact h.cell j hj
  · intro n x hx
    obtain ⟨bs, g, h1, h2, h3⟩ := h.bank n x hx
    exact ⟨bs, g, by rw [hbank]; exact h1, far h2 (fun c z => cells_ne (by decide)), h3⟩
  · rw [htones]
    refine ownsRow_heap h.tones (fun g hg => heap_set_far ?_)
    rcases h.tones.2 with ⟨rfl, _⟩ | ⟨g', cap, cur, rfl, _, hh, _⟩
    · simp [Value.ownBlock] at hg
    · simp only [Value.ownBlock, Option.some.injEq] at hg
      subst hg
      exact heap_ne hh h.blk (cells_ne (by decide))

/-- .. the tones' slice with it. -/
theorem MemAt.setTones {w : World} {b : Nat} {M : Mm} {S : Nat → Prop} {cs : Array Value} {bm : Nat} {es : Array MapEntry} {clk : Nat} {bf : Int → Option Nat} {tv : Value} (h : MemAt w b M S cs bm es clk bf tv) (v : Value) (l : List (Int × Int × Int))
    (hv : w.ownsRow 0 92 3 v l.length (toneCells l)) (hs : ∀ k, v.ownBlock = some k → S k) :
    MemAt (w.setCell ⟨b, 19463, none⟩ v) b { M with tones := l } S (cs.setIfInBounds 19463 v) bm es clk bf v := by
  have far : ∀ {i : Nat} {o : Obj}, w.heap[i]? = some o → (∀ c z, o ≠ .cells c 87 z) → (w.setCell ⟨b, 19463, none⟩ v).heap[i]? = some o := fun {i o} hi ho => by
    rw [heap_set_far (heap_ne hi h.blk (ho _ _))]; exact hi
  refine { ok := ⟨h.ok.bank, h.ok.ram, h.ok.scr, h.ok.chosen, h.ok.pad, h.ok.volume, h.ok.pitch, h.ok.time⟩, blk := heap_set_cell h.blk 19463 v, sz := by simp [h.sz], cell := ?_, map := far h.map (by simp), imap := h.imap, gone := h.gone, bank := ?_, inj := h.inj, tones := ?_, sb := h.sb, sm := h.sm, sx := h.sx, st := hs, lt := by simpa [World.setCell] using h.lt }
  · intro j hj
    rw [Array.getElem?_setIfInBounds]
    by_cases e : 19463 = j
    · subst e; simp [h.sz, Mm.cell]
    · rw [if_neg e, h.cell j hj]
      have : j < 19463 := by omega
      unfold Mm.cell
      repeat' split
      all_goals first | rfl | omega
  · intro n x hx
    obtain ⟨bs, g, h1, h2, h3⟩ := h.bank n x hx
    exact ⟨bs, g, h1, far h2 (fun c z => cells_ne (by decide)), h3⟩
  · refine ownsRow_heap hv (fun g hg => heap_set_far ?_)
    rcases hv.2 with ⟨rfl, _⟩ | ⟨g', cap, cur, rfl, _, hh, _⟩
    · simp [Value.ownBlock] at hg
    · simp only [Value.ownBlock, Option.some.injEq] at hg
      subst hg
      exact heap_ne hh h.blk (cells_ne (by decide))

/-- A byte of a bank is written. -/
theorem MemAt.setBank {w : World} {b : Nat} {M : Mm} {S : Nat → Prop} {cs : Array Value} {bm : Nat} {es : Array MapEntry} {clk : Nat} {bf : Int → Option Nat} {tv : Value} (h : MemAt w b M S cs bm es clk bf tv) {n : Int} {x : Nat} (hx : bf n = some x) {g : Nat → Int} (hg : M.bank n = some g) (i : Nat) (v : Int) (hv : 0 ≤ v ∧ v < 256) :
    MemAt (w.setCell ⟨x, i, none⟩ (.int .u8 v)) b { M with bank := fun m => if m = n then some (fun j => if j = i then v else g j) else M.bank m } S cs bm es clk bf tv := by
  obtain ⟨bs, g', h1, h2, h3, h4⟩ := h.bank n x hx
  obtain rfl : g' = g := by rw [h1] at hg; exact Option.some.inj hg
  have far : ∀ {k : Nat} {o : Obj}, w.heap[k]? = some o → (∀ c z, o ≠ .cells c 89 z) → (w.setCell ⟨x, i, none⟩ (.int .u8 v)).heap[k]? = some o := fun {k o} hk ho => by
    rw [heap_set_far (heap_ne hk h2 (ho _ _))]; exact hk
  refine { ok := ⟨?_, h.ok.ram, h.ok.scr, h.ok.chosen, h.ok.pad, h.ok.volume, h.ok.pitch, h.ok.time⟩, blk := far h.blk (fun c z => cells_ne (by decide)), sz := h.sz, cell := h.cell, map := far h.map (by simp), imap := h.imap, gone := ?_, bank := ?_, inj := h.inj, tones := ?_, sb := h.sb, sm := h.sm, sx := h.sx, st := h.st, lt := by simpa [World.setCell] using h.lt }
  · intro m q hq j
    dsimp only at hq
    split at hq
    · cases hq
      dsimp only
      split
      · exact hv
      · exact h.ok.bank n g' hg j
    · exact h.ok.bank m q hq j
  · intro m hm
    dsimp only
    rw [if_neg (by rintro rfl; rw [hm] at hx; cases hx)]
    exact h.gone m hm
  · intro m y hy
    dsimp only
    by_cases e : m = n
    · subst e
      obtain rfl : x = y := by rw [hx] at hy; exact Option.some.inj hy
      refine ⟨bs.setIfInBounds i (.int .u8 v), _, by rw [if_pos rfl], heap_set_cell h2 i _, by simp [h3], ?_⟩
      intro j hj
      rw [Array.getElem?_setIfInBounds]
      by_cases e : i = j
      · subst e; simp [h3, hj]
      · rw [if_neg e, h4 j hj, if_neg (fun e' => e e'.symm)]
    · obtain ⟨bs', q, k1, k2, k3⟩ := h.bank m y hy
      refine ⟨bs', q, by rw [if_neg e]; exact k1, ?_, k3⟩
      rw [heap_set_far (fun e' => e (by subst e'; exact h.inj m n _ hy hx))]
      exact k2
  · refine ownsRow_heap h.tones (fun k hk => heap_set_far ?_)
    rcases h.tones.2 with ⟨rfl, _⟩ | ⟨k', cap, cur, rfl, _, hh, _⟩
    · simp [Value.ownBlock] at hk
    · simp only [Value.ownBlock, Option.some.injEq] at hk
      subst hk
      exact heap_ne hh h2 (cells_ne (by decide))
end Go.Proofs.Ytabeljpnmmfpgaa
