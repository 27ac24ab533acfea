/-
  mem.Restore: what the two copies and the five stores make of a memory.
  What Restore takes and what it makes of it: plain law.
-/
import Derived.Laws.CopyOwn
import Derived.Test.YtabeljpnmmfpgaaMemImage
import Derived.Test.YtabeljpnmmfpgaaMemFull
namespace Go.Proofs.Ytabeljpnmmfpgaa
open Go.RowKit Go.MapKept
set_option linter.unusedVariables false
set_option linter.unusedSimpArgs false

/-- copy as a step of a region: n cells of a block's row are written over. -/
theorem step_copy_at {P : Program} {ops : Array Oper} {o : Oper} {a : Act} {w : World} {K : Act → World → Prop} {Q : Exit → Act → World → Prop} {E : Prop} (hgd : o.guard = none) (d s : Operand) (dT sT : TypeId)
    (ho : o.op = .call { callee := .builtin .copy, args := #[d, s], argTypes := #[dT, sT] }) (elem : TypeId) (hu : P.underlying dT = some (.slice elem)) (hsz : (P.info? elem).map (·.size) = some 1)
    (g off : Nat) (ad : Addr) (n m dCap sCap : Nat) (hd : a.eval d = .slice (some ⟨g, off, none⟩) n dCap) (hs : a.eval s = .slice (some ad) m sCap)
    (cur : Array Value) (t : TypeId) (hg : w.heap[g]? = some (.cells cur t (0, 0))) (cs : List Value) (hn : cs.length = n) (hm : m = n)
    (hsrc : ∀ j v, cs[j]? = some v → w.cell? (ad.add j) = some v) (hfit : off + cs.length ≤ cur.size) (h1 : ∀ v ∈ cs, v.oneCell' = true)
    (h : ∀ w', Hid (w' = w.setRow g (splice cur.toList off cs).toArray) → K (a.put o.dst (goInt cs.length)) w') :
    if Region.wanted o (yielded ops a.tmps) = true then Oper.wp P o a w K Q else E := by
  subst hm
  have hw : Region.wanted o (yielded ops a.tmps) = true := by simp [Region.wanted, hgd]
  rw [if_pos hw]
  have hrun := run_copy_row (P := P) w dT sT o.type elem g off m dCap ad m sCap cur t cs hu hsz hg (by rw [hn]; exact (Nat.min_self m).symm) hsrc hfit h1
  unfold Oper.wp
  simp [execOp, ho, resolve, invoke, builtin, hd, hs, hrun, Result.andThen]
  exact h _ rfl

theorem splice_at {α : Type} (L : List α) (off : Nat) (cs : List α) (h : off + cs.length ≤ L.length) (k : Nat) : (splice L off cs)[k]? = if off ≤ k ∧ k < off + cs.length then cs[k - off]? else L[k]? := by
  unfold splice
  by_cases h1 : k < off
  · rw [if_neg (by omega), List.getElem?_append_left (by rw [List.length_take]; omega), List.getElem?_take, if_pos h1]
  · have ht : (L.take off).length = off := by rw [List.length_take]; omega
    rw [List.getElem?_append_right (by omega), ht]
    by_cases h2 : k < off + cs.length
    · rw [if_pos ⟨by omega, h2⟩, List.getElem?_append_left (by omega)]
    · rw [if_neg (by omega), List.getElem?_append_right (by omega), List.getElem?_drop, show off + cs.length + (k - off - cs.length) = k by omega]

/-- The object's own block is another, nothing else. -/
theorem MemAt.reset {w w' : World} {b : Nat} {M M' : Mm} {S : Nat → Prop} {cs cs' : Array Value} {bm : Nat} {es : Array MapEntry} {clk : Nat} {bf : Int → Option Nat} {tv : Value} (h : MemAt w b M S cs bm es clk bf tv)
    (hok : M'.Ok) (hfar : ∀ i, i ≠ b → w'.heap[i]? = w.heap[i]?) (hb : w'.heap[b]? = some (.cells cs' 87 (0, 0))) (hsz : cs'.size = 19464) (hc : ∀ k, k < 19464 → cs'[k]? = some (M'.cell bm tv k)) (hbank : M'.bank = M.bank) (htones : M'.tones = M.tones) :
    MemAt w' b M' S cs' bm es clk bf tv := by
  have far : ∀ {i : Nat} {o : Obj}, w.heap[i]? = some o → (∀ c z, o ≠ .cells c 87 z) → w'.heap[i]? = some o := fun {i o} hi ho => by
    rw [hfar i (heap_ne hi h.blk (ho _ _))]; exact hi
  refine { ok := hok, blk := hb, sz := hsz, cell := hc, map := far h.map (by simp), imap := h.imap, gone := by rw [hbank]; exact h.gone, bank := ?_, inj := h.inj, tones := ?_, sb := h.sb, sm := h.sm, sx := h.sx, st := h.st, lt := ?_ }
  · intro n x hx
    obtain ⟨bs, g, h1, h2, h3⟩ := h.bank n x hx
    exact ⟨bs, g, by rw [hbank]; exact h1, far h2 (fun c z => cells_ne (by decide)), h3⟩
  · rw [htones]
    refine ownsRow_heap h.tones (fun g hg => hfar g ?_)
    rcases h.tones.2 with ⟨rfl, _⟩ | ⟨g', cap, cur, rfl, _, hh, _⟩
    · simp [Value.ownBlock] at hg
    · simp only [Value.ownBlock, Option.some.injEq] at hg
      subst hg
      exact heap_ne hh h.blk (cells_ne (by decide))
  · intro i hi
    by_cases e : i = b
    · subst e; exact heap_lt hb
    · have h2 := hfar i e
      rw [Array.getElem?_eq_getElem (h.lt i hi)] at h2
      exact heap_lt h2

theorem setRow_size (w : World) (g : Nat) (cs : Array Value) : (w.setRow g cs).heap.size = w.heap.size := by simp [World.setRow]

def rest1 (cs : Array Value) (ram : List Int) : Array Value := (splice cs.toList 1 (byteCells ram)).toArray
def rest2 (cs : Array Value) (ram scr : List Int) : Array Value := (splice (rest1 cs ram).toList 16385 (byteCells scr)).toArray
def restW (w : World) (b : Nat) (cs : Array Value) (ram scr : List Int) : World := ((w.setRow b (rest1 cs ram)).drew.setRow b (rest2 cs ram scr)).drew

theorem byteCells_get' (l : List Int) (j : Nat) (h : j < l.length) : (byteCells l)[j]? = some (.int .u8 (l.getD j 0)) := by
  unfold byteCells
  rw [List.getElem?_map, List.getD_eq_getElem?_getD, List.getElem?_eq_getElem h]; rfl

theorem rest1_size {cs : Array Value} {ram : List Int} (hcs : cs.size = 19464) (hr : ram.length = 16384) : (rest1 cs ram).size = 19464 := by
  unfold rest1
  rw [List.size_toArray, length_splice _ _ _ (by rw [byteCells_length]; simp [hcs, hr])]
  simpa using hcs
theorem rest2_size {cs : Array Value} {ram scr : List Int} (hcs : cs.size = 19464) (hr : ram.length = 16384) (hs : scr.length = 3072) : (rest2 cs ram scr).size = 19464 := by
  have h1 := rest1_size hcs hr
  unfold rest2
  rw [List.size_toArray, length_splice _ _ _ (by rw [byteCells_length]; simp [h1, hs])]
  simpa using h1
theorem rest2_at {cs : Array Value} {ram scr : List Int} (hcs : cs.size = 19464) (hr : ram.length = 16384) (hs : scr.length = 3072) (k : Nat) (hk : k < 19464) :
    (rest2 cs ram scr)[k]? = if k = 0 then cs[k]? else if k < 16385 then some (.int .u8 (ram.getD (k - 1) 0)) else if k < 19457 then some (.int .u8 (scr.getD (k - 16385) 0)) else cs[k]? := by
  have h1 := rest1_size (cs := cs) hcs hr
  unfold rest2
  rw [List.getElem?_toArray, splice_at _ _ _ (by rw [byteCells_length]; simp [h1, hs]), byteCells_length, hs]
  by_cases k2 : 16385 ≤ k ∧ k < 16385 + 3072 * 1
  · rw [if_pos k2, if_neg (by omega), if_neg (by omega), if_pos (by omega), byteCells_get' _ _ (by omega)]
  · rw [if_neg k2, Array.getElem?_toList]
    unfold rest1
    rw [List.getElem?_toArray, splice_at _ _ _ (by rw [byteCells_length]; simp [hcs, hr]), byteCells_length, hr]
    by_cases k1 : 1 ≤ k ∧ k < 1 + 16384 * 1
    · rw [if_pos k1, if_neg (by omega), if_pos (by omega), byteCells_get' _ _ (by omega)]
    · rw [if_neg k1, Array.getElem?_toList]
      by_cases k0 : k = 0
      · rw [if_pos k0]
      · rw [if_neg k0, if_neg (by omega), if_neg (by omega)]

theorem restW_blk {w : World} {b : Nat} {cs : Array Value} {ram scr : List Int} (h : w.heap[b]? = some (.cells cs 87 (0, 0))) : (restW w b cs ram scr).heap[b]? = some (.cells (rest2 cs ram scr) 87 (0, 0)) := by
  have h1 : (w.setRow b (rest1 cs ram)).drew.heap[b]? = some (.cells (rest1 cs ram) 87 (0, 0)) := setRow_heap w b cs _ _ _ h
  exact setRow_heap _ b _ _ _ _ h1
theorem restW_far {w : World} {b : Nat} {cs : Array Value} {ram scr : List Int} {i : Nat} (h : i ≠ b) : (restW w b cs ram scr).heap[i]? = w.heap[i]? := by
  show ((w.setRow b (rest1 cs ram)).drew.setRow b (rest2 cs ram scr)).heap[i]? = _
  rw [setRow_other _ _ _ _ h]
  show (w.setRow b (rest1 cs ram)).heap[i]? = _
  rw [setRow_other _ _ _ _ h]
theorem restW_below {B : Nat} {w0 w : World} {b : Nat} {cs : Array Value} {ram scr : List Int} (h : Below B w0 w) (hb : B ≤ b) : Below B w0 (restW w b cs ram scr) :=
  (below_setRow (below_setRow h hb _).drew hb _).drew

theorem rest_done {w : World} {b : Nat} {M : Mm} {S : Nat → Prop} {cs : Array Value} {bm : Nat} {es : Array MapEntry} {clk : Nat} {bf : Int → Option Nat} {tv : Value} (h : MemAt w b M S cs bm es clk bf tv) {ram scr : List Int} {chosen pad pitch volume time : Int}
    (hr : ram.length = 16384) (hs : scr.length = 3072) (hok : ({ M with ram := fun j => ram.getD j 0, scr := fun j => scr.getD j 0, chosen := chosen, pad := pad, pitch := pitch, volume := volume, time := time } : Mm).Ok) :
    MemRep ((((((restW w b cs ram scr).setCell ⟨b, 19457, none⟩ (.int .u8 chosen)).setCell ⟨b, 19458, none⟩ (.int .u8 pad)).setCell ⟨b, 19460, none⟩ (.int .u16 pitch)).setCell ⟨b, 19459, none⟩ (.int .u8 volume)).setCell ⟨b, 19461, none⟩ (.int .u16 time)) b
      { M with ram := fun j => ram.getD j 0, scr := fun j => scr.getD j 0, chosen := chosen, pad := pad, pitch := pitch, volume := volume, time := time } S := by
  refine ⟨_, bm, es, clk, bf, tv, h.reset hok (fun i hi => ?_) (heap_set_cell (heap_set_cell (heap_set_cell (heap_set_cell (heap_set_cell (restW_blk h.blk) 19457 (.int .u8 chosen)) 19458 (.int .u8 pad)) 19460 (.int .u16 pitch)) 19459 (.int .u8 volume)) 19461 (.int .u16 time)) (by simp only [Array.size_setIfInBounds]; exact rest2_size h.sz hr hs) (fun k hk => ?_) rfl rfl⟩
  · iterate 5 rw [heap_set_far hi]
    exact restW_far hi
  · have h2 := rest2_size (ram := ram) (scr := scr) h.sz hr hs
    simp only [Array.getElem?_setIfInBounds, Array.size_setIfInBounds, h2]
    by_cases e1 : 19461 = k
    · subst e1; rfl
    rw [if_neg e1]
    by_cases e2 : 19459 = k
    · subst e2; rfl
    rw [if_neg e2]
    by_cases e3 : 19460 = k
    · subst e3; rfl
    rw [if_neg e3]
    by_cases e4 : 19458 = k
    · subst e4; rfl
    rw [if_neg e4]
    by_cases e5 : 19457 = k
    · subst e5; rfl
    rw [if_neg e5, rest2_at h.sz hr hs k hk]
    have hck := h.cell k hk
    unfold Mm.cell at hck ⊢
    dsimp only
    by_cases k0 : k = 0
    · rw [if_pos k0, if_pos k0, hck, if_pos k0]
    rw [if_neg k0, if_neg k0]
    by_cases k1 : k < 16385
    · rw [if_pos k1, if_pos k1]
    rw [if_neg k1, if_neg k1]
    by_cases k2 : k < 19457
    · rw [if_pos k2, if_pos k2]
    rw [if_neg k2, if_neg k2, hck]
    repeat' split
    all_goals first | rfl | omega
end Go.Proofs.Ytabeljpnmmfpgaa

namespace Go.Proofs.Ytabeljpnmmfpgaa
open Go.RowKit Go.MapKept
set_option linter.unusedVariables false
set_option linter.unusedSimpArgs false

/-- An image that Restore takes. -/
structure ImgOk (I : Img) : Prop where
  banks : banksOk I.banks
  full : ∀ i, i < I.banks.length → (I.banks.getD i (0, [])).2.length = 16384
  ram : I.ram.length = 16384
  scr : I.scr.length = 3072
  chosen : I.chosen < 16

/-- The memory that it makes. -/
def imgMem (I : Img) : Mm := { newMem I.banks I.banks.length with ram := fun j => I.ram.getD j 0, scr := fun j => I.scr.getD j 0, chosen := I.chosen, pad := I.pad, pitch := I.pitch, volume := I.volume, time := I.time }

theorem asc_ext : ∀ (a b : List Int), a.Pairwise (fun x y => x < y) → b.Pairwise (fun x y => x < y) → (∀ x, x ∈ a ↔ x ∈ b) → a = b
  | [], [], _, _, _ => rfl
  | [], y :: b, _, _, h => absurd ((h y).2 (by simp)) (by simp)
  | x :: a, [], _, _, h => absurd ((h x).1 (by simp)) (by simp)
  | x :: a, y :: b, ha, hb, h => by
    obtain ⟨ha1, ha2⟩ := List.pairwise_cons.1 ha
    obtain ⟨hb1, hb2⟩ := List.pairwise_cons.1 hb
    have e : x = y := by
      have h1 := (h x).1 (by simp)
      have h2 := (h y).2 (by simp)
      rcases List.mem_cons.1 h1 with h1 | h1
      · exact h1
      · rcases List.mem_cons.1 h2 with h2 | h2
        · exact h2.symm
        · have := hb1 x h1; have := ha1 y h2; omega
    subst e
    have e2 : a = b := asc_ext a b ha2 hb2 (fun z => by
      constructor
      · intro hz
        have h3 := (h z).1 (List.mem_cons_of_mem _ hz)
        rcases List.mem_cons.1 h3 with rfl | h3
        · have := ha1 _ hz; omega
        · exact h3
      · intro hz
        have h3 := (h z).2 (List.mem_cons_of_mem _ hz)
        rcases List.mem_cons.1 h3 with rfl | h3
        · have := hb1 _ hz; omega
        · exact h3)
    rw [e2]

theorem banksOk_lt {l : List (Int × List Int)} (h : banksOk l) : ∀ j i, i < j → j < l.length → (l.getD i (0, [])).1 < (l.getD j (0, [])).1
  | 0, i, hi, _ => by omega
  | j + 1, i, hi, hj => by
    have h1 := (h (j + 1) hj).1
    rw [lastAt_succ] at h1
    by_cases e : i = j
    · subst e; exact h1
    · have := banksOk_lt h j i (by omega) (by omega); omega
theorem bankOf_at {l : List (Int × List Int)} (h : banksOk l) : ∀ k i, i < k → k ≤ l.length → bankOf l k (l.getD i (0, [])).1 = some (fun j => (l.getD i (0, [])).2.getD j 0)
  | 0, i, hi, _ => by omega
  | k + 1, i, hi, hk => by
    unfold bankOf
    by_cases e : i = k
    · subst e; rw [if_pos rfl]
    · have := banksOk_lt h k i (by omega) (by omega)
      rw [if_neg (by omega)]
      exact bankOf_at h k i (by omega) (by omega)
theorem bankOf_mem {l : List (Int × List Int)} : ∀ k n, (bankOf l k n).isSome = true → ∃ i, i < k ∧ (l.getD i (0, [])).1 = n
  | 0, n, h => by cases h
  | k + 1, n, h => by
    unfold bankOf at h
    split at h
    · rename_i e
      exact ⟨k, by omega, e.symm⟩
    · obtain ⟨i, h1, h2⟩ := bankOf_mem k n h
      exact ⟨i, by omega, h2⟩

theorem bytesOf_getD (l : List Int) (n : Nat) (h : l.length = n) : bytesOf (fun j => l.getD j 0) n = l := by
  subst h
  exact padded_self l

theorem imgMem_banks {I : Img} (h : ImgOk I) {ss : List Int} {gs : Int → Nat → Int} (hp : ss.Pairwise (fun x y => x < y)) (hm : ∀ x, x ∈ ss ↔ ((imgMem I).bank x).isSome = true) (hg : ∀ x, x ∈ ss → (imgMem I).bank x = some (gs x)) : bankList ss gs = I.banks := by
  have hget : ∀ i (hi : i < I.banks.length), I.banks.getD i (0, []) = I.banks[i] := fun i hi => by
    rw [List.getD_eq_getElem?_getD, List.getElem?_eq_getElem hi]; rfl
  have e : ss = I.banks.map Prod.fst := by
    refine asc_ext _ _ hp ?_ (fun x => ?_)
    · rw [List.pairwise_map, List.pairwise_iff_getElem]
      intro i j hi hj hij
      have := banksOk_lt h.banks j i hij hj
      rw [hget i hi, hget j hj] at this
      exact this
    · rw [hm x]
      constructor
      · intro hs
        obtain ⟨i, h1, h2⟩ := bankOf_mem _ _ hs
        refine List.mem_map.2 ⟨I.banks.getD i (0, []), ?_, h2⟩
        rw [hget i h1]; exact List.getElem_mem h1
      · intro hx
        obtain ⟨p, hp', rfl⟩ := List.mem_map.1 hx
        obtain ⟨i, hi, rfl⟩ := List.getElem_of_mem hp'
        have := bankOf_at h.banks _ i hi (Nat.le_refl _)
        rw [hget i hi] at this
        show (bankOf I.banks I.banks.length _).isSome = true
        rw [this]; rfl
  subst e
  unfold bankList
  refine List.ext_getElem (by simp) (fun i h1 h2 => ?_)
  rw [List.getElem_map, List.getElem_map]
  have h3 := hg (I.banks[i]).1 (List.mem_map.2 ⟨_, List.getElem_mem h2, rfl⟩)
  have h4 := bankOf_at h.banks _ i h2 (Nat.le_refl _)
  rw [hget i h2] at h4
  have h5 : some (gs (I.banks[i]).1) = some (fun j => (I.banks[i]).2.getD j 0) := h3.symm.trans h4
  rw [Option.some.inj h5]
  have hf := h.full i h2
  rw [hget i h2] at hf
  rw [bytesOf_getD _ _ hf]

end Go.Proofs.Ytabeljpnmmfpgaa
