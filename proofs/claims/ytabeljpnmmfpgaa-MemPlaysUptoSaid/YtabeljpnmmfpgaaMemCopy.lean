/-
  (*mem.Memory).Copy: another memory in new blocks, with the same content.
-/
import Derived.Test.YtabeljpnmmfpgaaMemScreen
import Derived.Test.YtabeljpnmmfpgaaMemTones
import Derived.Maps.RangeWalk
import Derived.Test.YtabeljpnmmfpgaaKeysOf
namespace Go.Proofs.Ytabeljpnmmfpgaa
open Go.RowKit Go.MapKept Go.Maps
set_option linter.unusedVariables false
set_option linter.unusedSimpArgs false

/-- An element of the banks' map read as the number of its block. -/
def blkR (v : Value) : Option (DataW Unit × List MemPlace) := match v with
  | .pointer (some ⟨n, 0, none⟩) => some (.lit (.int .i64 n), [])
  | _ => none
def blkV (n : Nat) : Value := .pointer (some ⟨n, 0, none⟩)
theorem blkR_inv (v : Value) (y : DataW Unit × List MemPlace) (h : blkR v = some y) : ∃ n, v = blkV n := by
  unfold blkR at h
  split at h
  · exact ⟨_, rfl⟩
  · cases h

theorem imap_ownsBlk {es : Array MapEntry} {clk : Nat} {bf : Int → Option Nat} {w : World} {b : Nat} (h : IMap .u8 es clk (fun n => (bf n).map fun x => .pointer (some ⟨x, 0, none⟩))) (hb : w.heap[b]? = some (.map es clk)) (hr : ∀ n x, bf n = some x → 0 ≤ n ∧ n < 16) {k : TypeId} (hk : Try.prog.underlying k = some (.int .u8)) :
    ∃ D0 : DataW Unit, w.ownsMap Try.prog k blkR b 16 D0 ∧ (∀ x, has D0 (.int .u8 x) = true ↔ (bf x).isSome = true) ∧ ∀ x n, (∀ zd, D0.atKey (.int .u8 x) zd = .lit (.int .i64 (n : Nat))) → bf x = some n := by
  have hrv : ∀ n v, ((bf n).map fun x => Value.pointer (some ⟨x, 0, none⟩)) = some v → 0 ≤ n ∧ n < 16 := fun n v hv => by
    cases hx : bf n with
    | none => rw [hx] at hv; cases hv
    | some x => exact hr n x hx
  have hsz : es.size ≤ 16 := imap_small (m := 16) h (fun n v hv => by have := hrv n v hv; exact ⟨this.1, by simpa using this.2⟩)
  have key : ∀ x ∈ es.toList, ∃ (n : Int) (q : Nat), x.key = .int .u8 n ∧ bf n = some q ∧ WideElems.rg (H := Unit) Try.prog k blkR x = (.int .u8 n, .lit (.int .i64 q)) ∧ WideElems.rd (H := Unit) Try.prog k blkR x = some (.int .u8 n, .lit (.int .i64 q)) := fun x hx => by
    obtain ⟨n, hn⟩ := h.keys x hx
    have hf := (h.rep n x.val).2 ⟨x, hx, hn, rfl⟩
    have hb := hrv n x.val hf
    obtain ⟨q, hq, hv⟩ := Option.map_eq_some_iff.1 hf
    have hkey : keyOf Try.prog k x.key = some (.int .u8 n) := by
      rw [hn]; simp [keyOf, hk, mapKey, Lit.wf]; show (0:Int) ≤ n ∧ n ≤ 255; omega
    have hrd : WideElems.rd (H := Unit) Try.prog k blkR x = some (.int .u8 n, .lit (.int .i64 q)) := by simp [WideElems.rd, hkey, ← hv, blkR]
    exact ⟨n, q, hn, hq, by simp [WideElems.rg, hrd], hrd⟩
  have hp := WideShapes.sorted_perm (es.toList.map (WideElems.rg (H := Unit) Try.prog k blkR))
  refine ⟨_, ⟨es, clk, hb, ⟨by simp only [maxLen]; omega, h.st, fun x hx => ?_⟩, hsz, rfl⟩, ?_, ?_⟩
  · obtain ⟨n, q, _, _, _, e⟩ := key x hx
    exact ⟨_, e⟩
  · intro x
    rw [has_eq, List.any_eq_true]
    constructor
    · rintro ⟨p, hp1, hp2⟩
      obtain ⟨a, ha, rfl⟩ := List.mem_map.1 (hp.mem_iff.1 hp1)
      obtain ⟨n, q, hn, hf, e1, _⟩ := key a ha
      rw [e1] at hp2
      have e : n = x := by simpa [Lit.sameKey] using hp2
      rw [← e, hf]; rfl
    · intro hx
      obtain ⟨v, hv⟩ := Option.isSome_iff_exists.1 hx
      obtain ⟨a, ha, hak, _⟩ := (h.rep x (.pointer (some ⟨v, 0, none⟩))).1 (by rw [hv]; rfl)
      obtain ⟨n, q, hn, hf, e1, _⟩ := key a ha
      rw [hak] at hn
      cases hn
      exact ⟨_, hp.mem_iff.2 (List.mem_map.2 ⟨a, ha, rfl⟩), by rw [e1]; simp [Lit.sameKey]⟩
  · intro x n hat
    have h0 := hat .nil
    unfold DataW.atKey at h0
    dsimp only at h0
    cases hf : List.find? (fun p : Lit × DataW Unit => p.1.sameKey (.int .u8 x)) (List.foldr DataW.insert [] (es.toList.map (WideElems.rg (H := Unit) Try.prog k blkR))) with
    | none => rw [hf] at h0; cases h0
    | some p =>
      rw [hf] at h0
      dsimp only at h0
      obtain ⟨a, ha, rfl⟩ := List.mem_map.1 (hp.mem_iff.1 (List.mem_of_find?_eq_some hf))
      obtain ⟨m, q, hn, hq, e1, _⟩ := key a ha
      have hs := List.find?_some hf
      rw [e1] at hs h0
      have e : m = x := by simpa [Lit.sameKey] using hs
      subst e
      simp only [DataW.lit.injEq, Lit.int.injEq, true_and] at h0
      rw [hq]; exact congrArg some (Int.ofNat.inj h0)

theorem info16384 : (Try.prog.info? 89).map (·.size) = some 16384 := by kernel_rfl
theorem info19464 : (Try.prog.info? 87).map (·.size) = some 19464 := by kernel_rfl

theorem MemAt.all {w : World} {b : Nat} {M : Mm} {S : Nat → Prop} {cs : Array Value} {bm : Nat} {es : Array MapEntry} {clk : Nat} {bf : Int → Option Nat} {tv : Value} (h : MemAt w b M S cs bm es clk bf tv) : ∀ v ∈ cs.toList, v.oneCell' = true := by
  intro v hv
  obtain ⟨k, hk, rfl⟩ := List.getElem_of_mem hv
  have h1 := h.cell k (by rw [← h.sz]; simpa using hk)
  rw [Array.getElem?_eq_getElem (by simpa using hk)] at h1
  rw [Array.getElem_toList, Option.some.inj h1]
  unfold Mm.cell
  repeat' split
  all_goals first | rfl | skip
  rcases h.tones.2 with ⟨rfl, _⟩ | ⟨g', cap, cur, rfl, _⟩ <;> rfl

theorem MemAt.range {w : World} {b : Nat} {M : Mm} {S : Nat → Prop} {cs : Array Value} {bm : Nat} {es : Array MapEntry} {clk : Nat} {bf : Int → Option Nat} {tv : Value} (h : MemAt w b M S cs bm es clk bf tv) : w.rangeAt b 0 cs.toList := by
  intro j v hj
  rw [Nat.zero_add, cell_of h.blk, ← Array.getElem?_toList]; exact hj


/-- The copy in the making: object, map, the banks that have come. -/
structure CpM (w W : World) (L : List Value) (M : Mm) (bf : Int → Option Nat) (left : Lit → Bool) : Prop where
  below : Below w.heap.size w W
  obj : W.heap[w.heap.size]? = some (.cells (L.set 0 (.map (some (w.heap.size + 1)))).toArray 87 (0, 0))
  big : w.heap.size + 2 < W.heap.size
  map : ∃ (es : Array MapEntry) (clk : Nat) (bf2 : Int → Option Nat), W.heap[w.heap.size + 1]? = some (.map es clk) ∧ IMap .u8 es clk (fun n => (bf2 n).map fun x => .pointer (some ⟨x, 0, none⟩)) ∧
    (∀ n x, bf2 n = some x → w.heap.size + 2 < x ∧ ∃ bs g, M.bank n = some g ∧ W.heap[x]? = some (.cells bs 89 (0, 0)) ∧ bs.size = 16384 ∧ ∀ i, i < 16384 → bs[i]? = some (.int .u8 (g i))) ∧
    (∀ n m x, bf2 n = some x → bf2 m = some x → n = m) ∧ (∀ n, (bf2 n).isSome = true ↔ (bf n).isSome = true ∧ left (.int .u8 n) = false)

theorem CpM.start {w W : World} {L : List Value} {M : Mm} {bf : Int → Option Nat} {D0 : DataW Unit} (hd : ∀ x, has D0 (.int .u8 x) = true ↔ (bf x).isSome = true)
    (hg : ((w.alloc (.cells (L.set 0 (.map (some (w.heap.size + 1)))).toArray 87)).alloc (.map #[] 0)).grownBy W none) (hs : W.heap.size = ((w.alloc (.cells (L.set 0 (.map (some (w.heap.size + 1)))).toArray 87)).alloc (.map #[] 0)).heap.size + 1) : CpM w W L M bf (has D0) := by
  have hz : ((w.alloc (.cells (L.set 0 (.map (some (w.heap.size + 1)))).toArray 87)).alloc (.map #[] 0)).heap.size = w.heap.size + 2 := by simp
  have h1 : ((w.alloc (.cells (L.set 0 (.map (some (w.heap.size + 1)))).toArray 87)).alloc (.map #[] 0)).heap[w.heap.size + 1]? = some (.map #[] 0) := by
    have := heap_alloc_at (w.alloc (.cells (L.set 0 (.map (some (w.heap.size + 1)))).toArray 87)) (.map #[] 0)
    rwa [show (w.alloc (.cells (L.set 0 (.map (some (w.heap.size + 1)))).toArray 87)).heap.size = w.heap.size + 1 by simp] at this
  refine ⟨?_, ?_, by omega, #[], 0, fun _ => none, ?_, IMap.empty _, (by simp), (by simp), fun n => ?_⟩
  · exact (((Below.refl _ w).alloc (Nat.le_refl _) _).alloc (by simp) _).trans ((Upd.of_grown hg).below (by omega) (fun i h => by cases h))
  · rw [hg.block _ (by omega) (by simp)]; exact heap_alloc_old (heap_alloc_at w _)
  · rw [hg.block _ (by omega) (by simp)]; exact h1
  · simp only [Option.isSome_none, Bool.false_eq_true, false_iff, not_and, Bool.not_eq_false]
    intro h; exact (hd n).2 h

theorem CpM.next {w W W' : World} {L : List Value} {M : Mm} {bf : Int → Option Nat} {left : Lit → Bool} (h : CpM w W L M bf left) (hg : W.grownBy W' (some (w.heap.size + 2))) : CpM w W' L M bf left := by
  obtain ⟨es, clk, bf2, h1, h2, h3, h4, h5⟩ := h.map
  have hb := h.below.size
  refine ⟨h.below.trans ((Upd.of_grown hg).below hb (fun i hi => by cases hi; omega)), ?_, Nat.lt_of_lt_of_le h.big hg.size, es, clk, bf2, ?_, h2, ?_, h4, h5⟩
  · rw [hg.block _ (heap_lt h.obj) (by simp)]; exact h.obj
  · rw [hg.block _ (heap_lt h1) (by simp)]; exact h1
  · intro n x hx
    obtain ⟨a1, bs, g, a2, a3, a4⟩ := h3 n x hx
    exact ⟨a1, bs, g, a2, by rw [hg.block _ (heap_lt a3) (by simp; omega)]; exact a3, a4⟩

/-- One bank more: its bytes in a new block, the map with one key more. -/
theorem CpM.step {w W : World} {L : List Value} {M : Mm} {bf : Int → Option Nat} {left : Lit → Bool} (h : CpM w W L M bf left) (hL : L.length = 19464) {x : Int} {g : Nat → Int} {bs : Array Value} (hb : (bf x).isSome = true) (hg : M.bank x = some g) (hlx : left (.int .u8 x) = true) (hs : bs.size = 16384) (hc : ∀ i, i < 16384 → bs[i]? = some (.int .u8 (g i))) :
    ∃ (es : Array MapEntry) (clk : Nat) (f : Int → Option Value), (W.alloc (.cells bs 89)).heap[w.heap.size + 1]? = some (.map es clk) ∧ IMap .u8 es clk f ∧ (W.alloc (.cells bs 89)).cell? ⟨w.heap.size, 0, none⟩ = some (.map (some (w.heap.size + 1))) ∧
      Hid (∀ (W' : World) (es' : Array MapEntry) (clk' : Nat), W'.heap[w.heap.size + 1]? = some (.map es' clk') → IMap .u8 es' clk' (fun j => if j = x then some (.pointer (some ⟨W.heap.size, 0, none⟩)) else f j) → (W.alloc (.cells bs 89)).grownBy W' (some (w.heap.size + 1)) →
        CpM w W' L M bf (fun z => left z && !z.sameKey (.int .u8 x))) := by
  obtain ⟨es, clk, bf2, h1, h2, h3, h4, h5⟩ := h.map
  have hlt := h.big
  refine ⟨es, clk, _, heap_alloc_old h1, h2, ?_, fun W' es' clk' k1 k2 kg => ⟨?_, ?_, ?_, es', clk', fun j => if j = x then some W.heap.size else bf2 j, k1, ?_, ?_, ?_, ?_⟩⟩
  · rw [cell_of (heap_alloc_old h.obj)]
    simp [List.getElem?_set, hL]
  · exact (h.below.alloc h.below.size _).trans ((Upd.of_grown kg).below (by simp; omega) (fun i hi => by cases hi; omega))
  · rw [kg.block _ (by simp; omega) (by simp)]; exact heap_alloc_old h.obj
  · have := kg.size; simp at this; omega
  · refine cast ?_ k2
    congr 1
    funext j
    by_cases e : j = x
    · simp [e]
    · simp [e]
  · intro n y hy
    by_cases e : n = x
    · subst e
      simp only [if_true, Option.some.injEq] at hy
      subst hy
      exact ⟨hlt, bs, g, hg, by rw [kg.block _ (by simp) (by simp; omega)]; exact heap_alloc_at W _, hs, hc⟩
    · simp only [if_neg e] at hy
      obtain ⟨a1, bs', g', a2, a3, a4⟩ := h3 n y hy
      exact ⟨a1, bs', g', a2, by rw [kg.block _ (by have := heap_lt a3; simp; omega) (by simp; omega)]; exact heap_alloc_old a3, a4⟩
  · intro n m y hn hm
    have lt2 : ∀ j, bf2 j = some y → y < W.heap.size := fun j hj => by obtain ⟨_, bs', g', _, a3, _⟩ := h3 j y hj; exact heap_lt a3
    by_cases e1 : n = x <;> by_cases e2 : m = x
    · rw [e1, e2]
    · simp only [if_pos e1, if_neg e2, Option.some.injEq] at hn hm
      have := lt2 m hm; omega
    · simp only [if_neg e1, if_pos e2, Option.some.injEq] at hn hm
      have := lt2 n hn; omega
    · simp only [if_neg e1, if_neg e2] at hn hm
      exact h4 n m y hn hm
  · intro n
    by_cases e : n = x
    · subst e
      simp [hb, Lit.sameKey]
    · simp only [if_neg e, h5 n]
      simp [Lit.sameKey, e]

theorem ownsBase0 {W : World} {base n size : Nat} {t : TypeId} {v : Value} {xs : List Value} (ho : W.ownsRow base t size v n xs) : W.ownsRow 0 t size v n xs :=
  ⟨ho.1, ho.2.imp id (fun ⟨g, cap, cur, h1, _, h3⟩ => ⟨g, cap, cur, h1, Nat.zero_le _, h3⟩)⟩
theorem sliceOf' {W : World} {base n size : Nat} {t : TypeId} {v : Value} {xs : List Value} (ho : W.ownsRow base t size v n xs) : ∃ a n c, v = .slice a n c := by
  rcases ho.2 with ⟨rfl, _⟩ | ⟨g, cap, cur, rfl, _⟩ <;> exact ⟨_, _, _, rfl⟩
/-- What the copy is at the end, with whatever slice for its tones. -/
theorem CpM.done {w W : World} {b : Nat} {S : Nat → Prop} {cs : Array Value} {bm : Nat} {es : Array MapEntry} {clk : Nat} {tv : Value} {L : List Value} {M : Mm} {bf : Int → Option Nat} {left : Lit → Bool} (h : CpM w W L M bf left) (H : MemAt w b M S cs bm es clk bf tv) (hL : L = cs.toList) (hleft : ∀ z, left z = false) {W' : World} {v' : Value}
    (hb : Below W.heap.size W W') (ho : W'.ownsRow W.heap.size 92 3 v' M.tones.length (toneCells M.tones)) :
    (W'.cell? ⟨w.heap.size, 19463, none⟩).isSome = true ∧ W'.frozen? ⟨w.heap.size, 19463, none⟩ = false ∧ Hid (Below w.heap.size w (W'.setCell ⟨w.heap.size, 19463, none⟩ v') ∧ ∃ S', MemRep (W'.setCell ⟨w.heap.size, 19463, none⟩ v') w.heap.size M S' ∧ ∀ i, S' i → w.heap.size ≤ i) := by
  obtain ⟨es2, clk2, bf2, h1, h2, h3, h4, h5⟩ := h.map
  have hobj : W'.heap[w.heap.size]? = some (.cells (L.set 0 (.map (some (w.heap.size + 1)))).toArray 87 (0, 0)) := (hb.block _ (heap_lt h.obj)).trans h.obj
  have hsz := h.below.size
  have hbig := h.big
  have hsz2 := hb.size
  have hLs : L.length = 19464 := by rw [hL]; simpa using H.sz
  have hown := ho.lt
  refine ⟨?_, free_of hobj _, ⟨?_, fun i => w.heap.size ≤ i ∧ i < W'.heap.size, ?_, fun i hi => hi.1⟩⟩
  · rw [cell_of hobj]
    simp [hLs]
  · exact (h.below.trans (hb.mono hsz)).setCell (Nat.le_refl _) _
  · refine ⟨(L.set 0 (.map (some (w.heap.size + 1)))).toArray.setIfInBounds 19463 v', w.heap.size + 1, es2, clk2, bf2, v', ?_⟩
    have far : ∀ {i : Nat} {o : Obj}, W.heap[i]? = some o → i ≠ w.heap.size → (W'.setCell ⟨w.heap.size, 19463, none⟩ v').heap[i]? = some o := fun {i o} hi hne => by
      rw [heap_set_far hne, hb.block _ (heap_lt hi)]; exact hi
    have hne : ∀ k, v'.ownBlock = some k → k ≠ w.heap.size := fun k hk e => by have := hown k hk; omega
    refine { ok := H.ok, blk := heap_set_cell hobj _ _, sz := by simp [hLs], cell := ?_, map := far h1 (by omega), imap := h2, gone := ?_, bank := ?_, inj := h4, tones := ?_, sb := ⟨Nat.le_refl _, by omega⟩, sm := ⟨by omega, by omega⟩, sx := ?_, st := ?_, lt := ?_ }
    · intro k hk
      rw [Array.getElem?_setIfInBounds]
      by_cases e : 19463 = k
      · subst e; simp [hLs, Mm.cell]
      · rw [if_neg e, List.getElem?_toArray, List.getElem?_set]
        by_cases e0 : 0 = k
        · subst e0; simp [hLs, Mm.cell]
        · rw [if_neg e0, hL, Array.getElem?_toList, H.cell k hk]
          congr 1
          unfold Mm.cell
          simp only [if_neg (show ¬ k = 0 by omega)]
          repeat' split
          all_goals first | rfl | omega
    · intro n hn
      refine H.gone n ?_
      cases hx : bf n with
      | none => rfl
      | some x => have := (h5 n).2 ⟨by rw [hx]; rfl, hleft _⟩; rw [hn] at this; cases this
    · intro n x hx
      obtain ⟨a1, bs, g, a2, a3, a4⟩ := h3 n x hx
      exact ⟨bs, g, a2, far a3 (by omega), a4⟩
    · exact ownsRow_heap (ownsBase0 ho) (fun k hk => heap_set_far (hne k hk))
    · intro n x hx
      obtain ⟨a1, bs, g, a2, a3, a4⟩ := h3 n x hx
      exact ⟨by omega, by have := heap_lt a3; omega⟩
    · intro k hk
      have := hown k hk
      exact ⟨by omega, this.2⟩
    · intro i hi
      simpa [World.setCell] using hi.2

set_option maxRecDepth 100000 in
set_option maxHeartbeats 2000000 in
theorem memCopy_rep {b : Nat} {M : Mm} {S : Nat → Prop} {w : World} (h : MemRep w b M S) (hk : ∀ n g, M.bank n = some g → 0 ≤ n ∧ n < 16) (hl : M.tones.length < 1000000000) :
    Calls Try.prog 30 #[.pointer (some ⟨b, 0, none⟩)] w fun e w' => e = .returned (.pointer (some ⟨w.heap.size, 0, none⟩)) ∧ Hid (Below w.heap.size w w' ∧ ∃ S', MemRep w' w.heap.size M S' ∧ ∀ i, S' i → w.heap.size ≤ i) := by
  obtain ⟨cs, bm, es, clk, bf, tv, H⟩ := h
  have hr := Lib.hid H.range
  have h1 := H.all
  have hsz : cs.toList.length = 19464 := by simpa using H.sz
  have hm0 : w.cell? ⟨b, 0, none⟩ = some (.map (some bm)) := by rw [H.at_ 0 (by omega)]; rfl
  have htv : w.cell? ⟨b, 19463, none⟩ = some tv := by rw [H.at_ 19463 (by omega)]; rfl
  obtain ⟨D0, hown, hdom, hat⟩ := imap_ownsBlk H.imap H.map (fun n x hx => by obtain ⟨bs, g, h1, _⟩ := H.bank n x hx; exact hk n g h1) Try.underlying5
  have HOwn : Hid (∀ W, Below w.heap.size w W → W.ownsMap Try.prog 5 blkR bm 16 D0) := fun W hW => by
    obtain ⟨es, clock, hb, Ft, hs, hD⟩ := hown
    exact ⟨es, clock, (hW.block bm (heap_lt hb)).trans hb, Ft, hs, hD⟩
  obtain ⟨L, hL⟩ : ∃ L, L = cs.toList := ⟨_, rfl⟩
  have HLL := Lib.hid hL
  rw [← hL] at hr hsz h1
  have HL := Lib.hid hsz
  have HI : Hid ((Try.prog.info? 87).map (·.size) = some L.length) := by rw [hsz]; exact info19464
  have HJ : Hid ((Try.prog.info? 87).map (·.size) = some L.toArray.size) := by rw [List.size_toArray, hsz]; exact info19464
  have HO : Hid (L.toArray.all (·.oneCell') = true) := all_oneCell_toArray h1
  have hmm := @run_makeMap Try.prog
  have law := Maps.int_keyed Try.underlying5
  have HH := Lib.hid H
  have HD := Lib.hid hdom
  have HA := Lib.hid hat
  have START := Lib.hid (fun W => @CpM.start w W L M bf D0 hdom)
  clear hL hsz h1 hown hdom hat H
  go_enter Try.func30, Try.ntmps30
  have hsc : (storeCells ⟨w.heap.size, 0, none⟩ L 0).run Try.prog (w.alloc (.cells Try.zeroCells87 87)) = .ok () (w.alloc (.cells L.toArray 87)) :=
    run_storeCells_new (P := Try.prog) w 87 Try.zeroCells87 L.toArray HJ.out (by rw [zm_size, List.size_toArray, HL.out]) HO.out
  have hm1 : ((w.alloc (Obj.cells (L.set 0 (Value.map (some (w.heap.size + 1)))).toArray 87)).alloc (Obj.map #[] 0)).cell? ⟨b, 0, none⟩ = some (.map (some bm)) :=
    cell_keep (B := w.heap.size) (((Below.refl _ w).alloc (Nat.le_refl _) _).alloc (by simp) _) hm0 (World.block_lt_of_cell? w _ hm0)
  go_wp2_with (first
    | refine wpList_load_mid rfl 87 (.tmp 10) rfl b 0 rfl L _ hr.out Try.underlying87 rfl HI.out ?_
    | (at_range; refine wpList_range_own _ rfl (.tmp 17) 82 rfl 5 88 law Try.underlying82 blkR bm 16 D0 rfl (HOwn.out _ (((Below.refl _ w).alloc (Nat.le_refl _) _).alloc (by simp) _)) ?_; intro w0 hrg0 hg0 hs0))
  try go_frame
  have e18 : ((w.alloc (Obj.cells (L.set 0 (Value.map (some (w.heap.size + 1)))).toArray 87)).alloc (Obj.map #[] 0)).heap.size = w.heap.size + 2 := by simp
  rw [e18] at hrg0 ⊢
  go_loopw [4] (fun _ wr => ∃ (left : Lit → Bool) (cnt : Nat), wr.ranges Try.prog 5 blkR bm (w.heap.size + 2) 16 D0 left cnt ∧ CpM w wr L M bf left) (fun _ wr => wr.rangeLeft bm (w.heap.size + 2))
  case atStart => exact ⟨_, _, hrg0, START.out _ hg0 hs0⟩
  case round =>
    obtain ⟨left, cnt, hrg, hC⟩ := hrel
    go_wp2_with (first
      | (at_next; refine wpList_next_ranges _ rfl (.tmp 18) rfl 5 law blkR (Value.int .u8) blkV (fun key kl hk => by obtain ⟨x, hx, _⟩ := Maps.keyOf_int_inv Try.underlying5 hk; exact ⟨x, hx⟩) blkR_inv bm (w.heap.size + 2) 16 D0 left cnt rfl hrg ?_ ?_)
      | go_in)
    · intro hc0 hl0
      have c19 : wr.cell? ⟨b, 19463, none⟩ = some tv := cell_keep hC.below htv (World.block_lt_of_cell? w _ htv)
      have hto : wr.ownsRow 0 92 3 tv M.tones.length (toneCells M.tones) := ownsRow_heap HH.out.tones (fun k hk => hC.below.block k (HH.out.lt k (HH.out.st k hk)))
      have fin := Lib.hid (fun W' v' => hC.done HH.out HLL.out hl0 (W' := W') (v' := v'))
      have Hc := Lib.hid hC
      clear hC
      go_wp2_with (go_at_call 43; refine (cloneTones_any _ 0 tv M.tones hl hto).mono ?_; rintro e w3 ⟨v', rfl, ho3, hb3⟩; obtain ⟨av, nv, cv, rfl⟩ := sliceOf' ho3; obtain ⟨f1, f2, f3⟩ := fin.out _ _ hb3 ho3; obtain ⟨vv, hvv⟩ := Option.isSome_iff_exists.1 f1)
      go_ret
      exact ⟨rfl, f3⟩
    · intro x c kl yd yp w2 cnt2 hkey hlk hv hat hrg2 hlt hg2 hs2 hen
      obtain ⟨x', ex, rfl, _⟩ := Maps.keyOf_int_inv Try.underlying5 hkey
      obtain rfl : x = x' := by simpa using ex
      have hyd : yd = .lit (.int .i64 (c : Nat)) := by simp [blkR, blkV] at hv; exact hv.1.symm
      subst hyd
      have hbx := HA.out x c hat
      obtain ⟨bs, g, hg, hbk, hbs, hbi⟩ := HH.out.bank x c hbx
      have hC2 := hC.next hg2
      obtain ⟨es2, clk2, f2, q1, q2, q3, QF⟩ := hC2.step HL.out (by rw [hbx]; rfl) hg hlk hbs hbi
      have hbk2 : w2.heap[c]? = some (.cells bs 89 (0, 0)) := (hC2.below.block c (heap_lt hbk)).trans hbk
      have hr2 := Lib.hid (show w2.rangeAt c 0 bs.toList from fun j v hj => by rw [Nat.zero_add, cell_of hbk2, ← Array.getElem?_toList]; exact hj)
      have hone : bs.all (·.oneCell') = true := by
        rw [Array.all_eq_true]
        intro i hi
        have h1 := hbi i (by omega)
        rw [Array.getElem?_eq_getElem hi] at h1
        rw [Option.some.inj h1]; rfl
      have hsz2 : bs.toList.length = 16384 := by simpa using hbs
      have HI2 : Hid ((Try.prog.info? 89).map (·.size) = some bs.toList.length) := by rw [hsz2]; exact info16384
      have HJ2 : Hid ((Try.prog.info? 89).map (·.size) = some bs.size) := by rw [hbs]; exact info16384
      have hsc2 : (storeCells ⟨w2.heap.size, 0, none⟩ bs.toList 0).run Try.prog (w2.alloc (.cells Try.zeroCells89 89)) = .ok () (w2.alloc (.cells bs 89)) :=
        run_storeCells_new (P := Try.prog) w2 89 Try.zeroCells89 bs HJ2.out (by rw [zb_size, hbs]) hone
      have Hq1 := Lib.hid q1
      have Hq2 := Lib.hid q2
      have Hx := Lib.hid hbx
      have Hs2 := Lib.hid hs2
      have hbm : bm < w.heap.size := heap_lt HH.out.map
      clear hbk hbi hg hv hat hbk2 hsz2 hone q1 q2 hbx hs2
      unfold blkV at hen ⊢
      go_wp2_with (first
        | refine wpList_load_mid rfl 89 (.tmp 25) rfl c 0 rfl bs.toList _ hr2.out Try.underlying89 rfl HI2.out ?_
        | (refine wpList_imap_put rfl (.tmp 28) (.tmp 29) (.tmp 6) 82 rfl 5 88 .u8 Try.underlying82 Try.underlying5 (w.heap.size + 1) es2 clk2 f2 rfl Hq1.out Hq2.out x _ rfl rfl ?_; intro w4 es4 clk4 k1 k2 _ k3))
      have hrg4 := (hrg2.alloc (.cells bs 89)).kept k3 (by simp; omega) (by simp)
      go_frame
      go_roundw
      case rel => exact ⟨_, cnt2, hrg4, QF.out w4 es4 clk4 k1 k2 k3⟩
      case measure => rw [hrg4.left_eq, hrg.left_eq]; exact hlt
end Go.Proofs.Ytabeljpnmmfpgaa
