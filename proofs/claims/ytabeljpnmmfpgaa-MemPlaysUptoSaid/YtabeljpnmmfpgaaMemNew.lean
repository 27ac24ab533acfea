/-
  mem.New: the memory of banks, or the error.
  mem.New, walked.
-/
import Derived.Test.YtabeljpnmmfpgaaMemMeth
import Derived.Laws.CopyOwn
namespace Go.Proofs.Ytabeljpnmmfpgaa
open Go.RowKit Go.MapKept
set_option linter.unusedVariables false
set_option linter.unusedSimpArgs false

/-! ### zeros -/
def isZ : Value → Bool | .int .u8 0 => true | _ => false
def allZ : Nat → List Value → Bool
  | 0, _ => true
  | n + 1, x :: r => if isZ x then allZ n r else false
  | _ + 1, [] => false
def dropV : Nat → List Value → List Value
  | 0, l => l
  | n + 1, _ :: r => dropV n r
  | _ + 1, [] => []
theorem dropV_eq : ∀ (n : Nat) (l : List Value), dropV n l = l.drop n
  | 0, l => rfl
  | n + 1, [] => rfl
  | n + 1, _ :: r => by rw [dropV, dropV_eq n r]; rfl
theorem allZ_at : ∀ (n : Nat) (l : List Value), allZ n l = true → ∀ i, i < n → l[i]? = some (.int .u8 0)
  | 0, _, _, i, hi => by omega
  | n + 1, [], h, _, _ => by cases h
  | n + 1, x :: r, h, i, hi => by
    unfold allZ at h
    split at h
    · rename_i hz
      cases i with
      | zero =>
        unfold isZ at hz
        split at hz
        · rfl
        · cases hz
      | succ i => simpa using allZ_at n r h i (by omega)
    · cases h
theorem zb_all : allZ 16384 Try.zeroCells89.toList = true := by kernel_rfl
theorem zb_size : Try.zeroCells89.size = 16384 := by kernel_rfl
theorem zb_at (i : Nat) (hi : i < 16384) : Try.zeroCells89[i]? = some (.int .u8 0) := by
  simpa using allZ_at _ _ zb_all i hi
theorem zm_all : allZ 19459 (dropV 1 Try.zeroCells87.toList) = true := by kernel_rfl
theorem zm_tail : dropV 19460 Try.zeroCells87.toList = [.int .u16 0, .int .u16 0, .int .i64 0, .slice none 0 0] := by kernel_rfl
theorem zm_size : Try.zeroCells87.size = 19464 := by kernel_rfl

/-! ### the specification -/
def lastAt (l : List (Int × List Int)) (k : Nat) : Int := if k = 0 then -1 else (l.getD (k - 1) (0, [])).1
def okAt (l : List (Int × List Int)) (i : Nat) : Prop := lastAt l i < (l.getD i (0, [])).1 ∧ (l.getD i (0, [])).1 ≤ 15 ∧ (l.getD i (0, [])).2.length ≤ 16384
def banksOk (l : List (Int × List Int)) : Prop := ∀ i, i < l.length → okAt l i
def bankOf (l : List (Int × List Int)) : Nat → Int → Option (Nat → Int)
  | 0, _ => none
  | k + 1, n => if n = (l.getD k (0, [])).1 then some (fun j => (l.getD k (0, [])).2.getD j 0) else bankOf l k n
def newMem (l : List (Int × List Int)) (k : Nat) : Mm := { bank := bankOf l k, ram := fun _ => 0, scr := fun _ => 0, chosen := 0, pad := 0, volume := 0, pitch := 0, time := 0, cycle := 0, tones := [] }

theorem lastAt_succ (l : List (Int × List Int)) (k : Nat) : lastAt l (k + 1) = (l.getD k (0, [])).1 := by unfold lastAt; rw [if_neg (by omega)]; rfl
theorem lastAt_ge {l : List (Int × List Int)} : ∀ {k : Nat}, (∀ i, i < k → okAt l i) → -1 ≤ lastAt l k
  | 0, _ => by unfold lastAt; simp
  | k + 1, h => by
    have h1 := lastAt_ge (k := k) (fun i hi => h i (by omega))
    have h2 := (h k (by omega)).1
    rw [lastAt_succ]; omega
theorem bankOf_none {l : List (Int × List Int)} : ∀ {k : Nat}, (∀ i, i < k → okAt l i) → ∀ n, lastAt l k < n → bankOf l k n = none
  | 0, _, _, _ => rfl
  | k + 1, h, n, hn => by
    rw [lastAt_succ] at hn
    have h2 := (h k (by omega)).1
    unfold bankOf
    rw [if_neg (by omega)]
    exact bankOf_none (fun i hi => h i (by omega)) n (by omega)

/-! ### what comes in -/
/-- Bytes that a slice holds. -/
def BytesIn (w : World) (v : Value) (l : List Int) : Prop :=
  ∃ a c, v = .slice a l.length c ∧ (a = none → c = 0) ∧ (0 < l.length → ∃ b o, a = some ⟨b, o, none⟩ ∧ ∀ j, j < l.length → w.cell? ⟨b, o + j, none⟩ = some (.int .u8 (l.getD j 0)))
def IsBytes (l : List Int) : Prop := ∀ x ∈ l, 0 ≤ x ∧ x < 256
theorem IsBytes.at_ {l : List Int} (h : IsBytes l) (j : Nat) : 0 ≤ l.getD j 0 ∧ l.getD j 0 < 256 := by
  by_cases hj : j < l.length
  · rw [List.getD_eq_getElem?_getD, List.getElem?_eq_getElem hj]; exact h _ (List.getElem_mem hj)
  · rw [List.getD_eq_getElem?_getD, List.getElem?_eq_none (by omega)]; simp

/-- Banks that a slice holds. -/
structure BanksIn (w : World) (v : Value) (l : List (Int × List Int)) (dv : Nat → Value) : Prop where
  row : ∃ a c, v = .slice a l.length c ∧ (0 < l.length → ∃ ab ao, a = some ⟨ab, ao, none⟩ ∧ ∀ i, i < l.length → w.cell? ⟨ab, ao + i * 2, none⟩ = some (.int .i64 (l.getD i (0, [])).1) ∧ w.cell? ⟨ab, ao + i * 2 + 1, none⟩ = some (dv i))
  bytes : ∀ i, i < l.length → BytesIn w (dv i) (l.getD i (0, [])).2
  isB : ∀ i, i < l.length → IsBytes (l.getD i (0, [])).2

theorem cell_keep {w w' : World} {B : Nat} (h : Below B w w') {p : Addr} {v : Value} (hc : w.cell? p = some v) (hB : p.block < B) : w'.cell? p = some v := (h.cell hB).trans hc
theorem BytesIn.below {w w' : World} (h : Below w.heap.size w w') {v : Value} {l : List Int} (hb : BytesIn w v l) : BytesIn w' v l := by
  obtain ⟨a, c, h1, hn, h2⟩ := hb
  refine ⟨a, c, h1, hn, fun hl => ?_⟩
  obtain ⟨b, o, h3, h4⟩ := h2 hl
  exact ⟨b, o, h3, fun j hj => cell_keep h (h4 j hj) (World.block_lt_of_cell? w _ (h4 j hj))⟩
theorem BanksIn.below {w w' : World} (h : Below w.heap.size w w') {v : Value} {l : List (Int × List Int)} {dv : Nat → Value} (hb : BanksIn w v l dv) : BanksIn w' v l dv := by
  obtain ⟨⟨a, c, h1, h2⟩, h3, h4⟩ := hb
  refine ⟨⟨a, c, h1, fun hl => ?_⟩, fun i hi => (h3 i hi).below h, h4⟩
  obtain ⟨ab, ao, e, hc⟩ := h2 hl
  exact ⟨ab, ao, e, fun i hi => ⟨cell_keep h (hc i hi).1 (World.block_lt_of_cell? w _ (hc i hi).1), cell_keep h (hc i hi).2 (World.block_lt_of_cell? w _ (hc i hi).2)⟩⟩

/-! ### a bank more -/
theorem MemAt.addBank {w w' : World} {b : Nat} {M : Mm} {S : Nat → Prop} {cs : Array Value} {bm : Nat} {es : Array MapEntry} {clk : Nat} {bf : Int → Option Nat} {tv : Value} (h : MemAt w b M S cs bm es clk bf tv)
    {n : Int} {x : Nat} {g : Nat → Int} {bs : Array Value} {es' : Array MapEntry} {clk' : Nat} (hn : bf n = none)
    (hkeep : ∀ i, S i → i ≠ bm → w'.heap[i]? = w.heap[i]?) (hmap : w'.heap[bm]? = some (.map es' clk')) (him : IMap .u8 es' clk' (fun j => if j = n then some (.pointer (some ⟨x, 0, none⟩)) else (bf j).map fun x => .pointer (some ⟨x, 0, none⟩)))
    (hx : w'.heap[x]? = some (.cells bs 89 (0, 0))) (hbs : bs.size = 16384) (hg : ∀ i, i < 16384 → bs[i]? = some (.int .u8 (g i))) (hgr : ∀ i, 0 ≤ g i ∧ g i < 256) (hxs : ¬ S x) :
    MemAt w' b { M with bank := fun m => if m = n then some g else M.bank m } (fun i => S i ∨ i = x) cs bm es' clk' (fun m => if m = n then some x else bf m) tv := by
  have hbb : b ≠ bm := heap_ne h.blk h.map (by simp)
  refine { ok := ⟨?_, h.ok.ram, h.ok.scr, h.ok.chosen, h.ok.pad, h.ok.volume, h.ok.pitch, h.ok.time⟩, blk := by rw [hkeep b h.sb hbb]; exact h.blk, sz := h.sz, cell := h.cell, map := hmap, imap := ?_, gone := ?_, bank := ?_, inj := ?_, tones := ?_, sb := .inl h.sb, sm := .inl h.sm, sx := ?_, st := fun k hk => .inl (h.st k hk), lt := ?_ }
  · intro m q hq j
    dsimp only at hq
    split at hq
    · cases hq; exact hgr j
    · exact h.ok.bank m q hq j
  · have e : (fun m => Option.map (fun x => Value.pointer (some ⟨x, 0, none⟩)) (if m = n then some x else bf m)) = (fun j => if j = n then some (.pointer (some ⟨x, 0, none⟩)) else (bf j).map fun x => .pointer (some ⟨x, 0, none⟩)) := by
      funext m; split <;> rfl
    rw [e]; exact him
  · intro m hm
    dsimp only
    split at hm
    · cases hm
    · rename_i hne; rw [if_neg hne]; exact h.gone m hm
  · intro m y hy
    dsimp only
    split at hy
    · rename_i e
      cases hy
      exact ⟨bs, g, by rw [if_pos e], hx, hbs, hg⟩
    · rename_i hne
      obtain ⟨bs', q, k1, k2, k3⟩ := h.bank m y hy
      refine ⟨bs', q, by rw [if_neg hne]; exact k1, ?_, k3⟩
      rw [hkeep y (h.sx m y hy) (heap_ne k2 h.map (by simp))]; exact k2
  · intro m m' y hy hy'
    split at hy <;> split at hy'
    · rename_i e e'; rw [e, e']
    · cases hy; exact absurd (h.sx _ _ hy') hxs
    · cases hy'; exact absurd (h.sx _ _ hy) hxs
    · exact h.inj m m' y hy hy'
  · refine ownsRow_heap h.tones (fun k hk => hkeep k (h.st k hk) ?_)
    rcases h.tones.2 with ⟨rfl, _⟩ | ⟨k', cap, cur, rfl, _, hh, _⟩
    · simp [Value.ownBlock] at hk
    · simp only [Value.ownBlock, Option.some.injEq] at hk
      subst hk
      exact heap_ne hh h.map (by simp)
  · intro m y hy
    split at hy
    · cases hy; exact .inr rfl
    · exact .inl (h.sx m y hy)
  · intro i hi
    rcases hi with hi | rfl
    · by_cases e : i = bm
      · subst e; exact heap_lt hmap
      · have h2 := hkeep i hi e
        rw [Array.getElem?_eq_getElem (h.lt i hi)] at h2
        exact heap_lt h2
    · exact heap_lt hx

/-! ### the invariant -/
def NewInv (w wr : World) (l : List (Int × List Int)) (k : Nat) : Prop :=
  (∀ i, i < k → okAt l i) ∧ Below w.heap.size w wr ∧ ∃ S, MemRep wr (w.heap.size + 1) (newMem l k) S ∧ ∀ i, S i → w.heap.size ≤ i

theorem new_start (w : World) (l : List (Int × List Int)) : NewInv w ((w.alloc (.map #[] 0)).alloc (.cells (Try.zeroCells87.setIfInBounds 0 (.map (some w.heap.size))) 87)) l 0 := by
  have hsz : (w.alloc (.map #[] 0)).heap.size = w.heap.size + 1 := by simp
  refine ⟨fun i hi => by omega, ((Below.refl _ _).alloc (Nat.le_refl _) _).alloc (by omega) _, fun i => i = w.heap.size ∨ i = w.heap.size + 1, ⟨Try.zeroCells87.setIfInBounds 0 (.map (some w.heap.size)), w.heap.size, #[], 0, fun _ => none, .slice none 0 0, ?_⟩, fun i hi => by omega⟩
  have hb := heap_alloc_at (w.alloc (.map #[] 0)) (.cells (Try.zeroCells87.setIfInBounds 0 (.map (some w.heap.size))) 87)
  rw [hsz] at hb
  refine { ok := ⟨(by intro n g h; cases h), ?_, ?_, ?_, ?_, ?_, ?_, ?_⟩, blk := hb, sz := (by rw [Array.size_setIfInBounds]; exact zm_size), cell := ?_, map := ?_, imap := ?_, gone := fun _ _ => rfl, bank := (fun n x hx => by cases hx), inj := (fun n m x hx => by cases hx), tones := World.ownsRow_nil _ _ _ _, sb := .inr rfl, sm := .inl rfl, sx := (fun n x hx => by cases hx), st := (fun k hk => by simp [Value.ownBlock] at hk), lt := ?_ }
  all_goals try (simp [newMem]; done)
  · intro j hj
    rw [Array.getElem?_setIfInBounds]
    by_cases e : 0 = j
    · subst e
      simp [Mm.cell, zm_size]
    · rw [if_neg e]
      have hz : ∀ j, 1 ≤ j → j < 19460 → Try.zeroCells87[j]? = some (.int .u8 0) := by
        intro j h1 h2
        have := allZ_at _ _ zm_all (j - 1) (by omega)
        rw [dropV_eq, List.getElem?_drop, show 1 + (j - 1) = j by omega] at this
        simpa using this
      have ht : ∀ j, Try.zeroCells87[19460 + j]? = ([.int .u16 0, .int .u16 0, .int .i64 0, .slice none 0 0] : List Value)[j]? := by
        intro j
        have := zm_tail
        rw [dropV_eq] at this
        rw [← this, List.getElem?_drop]; simp
      unfold Mm.cell
      rw [if_neg (fun e' => e e'.symm)]
      by_cases j1 : j < 19460
      · rw [hz j (by omega) j1]
        repeat' split
        all_goals first | rfl | omega
      · rcases (show j = 19460 ∨ j = 19461 ∨ j = 19462 ∨ j = 19463 by omega) with rfl | rfl | rfl | rfl
        · exact ht 0
        · exact ht 1
        · exact ht 2
        · exact ht 3
  · exact heap_alloc_old (heap_alloc_at w _)
  · exact IMap.empty .u8
  · intro i hi; simp; omega

theorem splice_zero (ds : List Int) (h : ds.length ≤ 16384) (i : Nat) (hi : i < 16384) : (splice Try.zeroCells89.toList 0 (ds.map (Value.int .u8)))[i]? = some (.int .u8 (ds.getD i 0)) := by
  unfold splice
  rw [List.take_zero, List.nil_append, Nat.zero_add, List.getD_eq_getElem?_getD]
  by_cases hd : i < ds.length
  · rw [List.getElem?_append_left (by simpa using hd), List.getElem?_map, List.getElem?_eq_getElem hd]; rfl
  · rw [List.getElem?_append_right (by simpa using hd), List.length_map, List.getElem?_drop, show ds.length + (i - ds.length) = i by omega, List.getElem?_eq_none (show ds.length ≤ i by omega)]
    simpa using zb_at i hi

set_option maxHeartbeats 1000000 in
theorem new_step {w wr : World} {l : List (Int × List Int)} {k : Nat} (h : NewInv w wr l k) (hk : okAt l k) (hB : IsBytes (l.getD k (0, [])).2) (X : Array Value) (w3 : World)
    (hw3 : Below (wr.heap.size + 1) ((wr.alloc (.cells X 37)).alloc (.cells Try.zeroCells89 89)).drew w3)
    (hblk : w3.heap[wr.heap.size + 1]? = some (.cells (splice Try.zeroCells89.toList 0 ((l.getD k (0, [])).2.map (Value.int .u8))).toArray 89 (0, 0))) :
    ∃ bm, w3.cell? ⟨w.heap.size + 1, 0, none⟩ = some (.map (some bm)) ∧ ∃ w4, (Instr.mapUpdate 82 (.map (some bm)) (.int .u8 (l.getD k (0, [])).1) (.pointer (some ⟨wr.heap.size + 1, 0, none⟩))).run Try.prog w3.drew = .ok () w4 ∧ NewInv w w4 l (k + 1) := by
  obtain ⟨hoks, hbel, S, ⟨cs, bm, es, clk, bf, tv, H⟩, hS⟩ := h
  obtain ⟨o1, o2, o3⟩ := hk
  have old : ∀ i, i < wr.heap.size → w3.heap[i]? = wr.heap[i]? := by
    intro i hi
    rw [hw3.block i (by omega)]
    show ((wr.alloc _).alloc _).heap[i]? = _
    rw [Below.heap_alloc _ _ _ (by simp; omega), Below.heap_alloc _ _ _ hi]
  have hsz3 : wr.heap.size + 2 ≤ w3.heap.size := by have := hw3.size; simpa using this
  have hgone : bf (l.getD k (0, [])).1 = none := by
    cases hb : bf (l.getD k (0, [])).1 with
    | none => rfl
    | some x =>
      obtain ⟨_, g, h1, _⟩ := H.bank _ _ hb
      have : bankOf l k (l.getD k (0, [])).1 = some g := h1
      rw [bankOf_none hoks _ o1] at this; cases this
  have hbm3 : w3.drew.heap[bm]? = some (.map es clk) := by
    show w3.heap[bm]? = _
    rw [old bm (H.lt bm H.sm)]; exact H.map
  obtain ⟨es', clk', hrun, him, hes1, hes2⟩ := H.imap.put (P := Try.prog) (w := w3.drew) hbm3 Try.underlying82 Try.underlying5 (l.getD k (0, [])).1 (.pointer (some ⟨wr.heap.size + 1, 0, none⟩))
  refine ⟨bm, ?_, _, hrun, ?_⟩
  · have := H.at_ 0 (by omega)
    rw [show w3.cell? ⟨w.heap.size + 1, 0, none⟩ = wr.cell? ⟨w.heap.size + 1, 0, none⟩ from World.cell?_of_block (w := wr) (old _ (H.lt _ H.sb)), this]; rfl
  · have hlt : bm < w3.heap.size := by have := H.lt bm H.sm; omega
    have hother : ∀ i, i ≠ bm → ({ w3.drew with heap := w3.drew.heap.setIfInBounds bm (.map es' clk') } : World).heap[i]? = w3.heap[i]? := by
      intro i hi
      show (w3.heap.setIfInBounds bm _)[i]? = _
      rw [Array.getElem?_setIfInBounds, if_neg (fun e => hi e.symm)]
    have hsame : ({ w3.drew with heap := w3.drew.heap.setIfInBounds bm (.map es' clk') } : World).heap[bm]? = some (.map es' clk') := by
      show (w3.heap.setIfInBounds bm _)[bm]? = _
      rw [Array.getElem?_setIfInBounds, if_pos rfl, if_pos hlt]
    have hne : wr.heap.size + 1 ≠ bm := by have := H.lt bm H.sm; omega
    refine ⟨?_, ?_, fun i => S i ∨ i = wr.heap.size + 1, ?_, fun i hi => ?_⟩
    · intro i hi
      by_cases e : i = k
      · subst e; exact ⟨o1, o2, o3⟩
      · exact hoks i (by omega)
    · have hb3 : Below w.heap.size w w3 := (((hbel.alloc hbel.size _).alloc (by have := hbel.size; simp; omega) _).drew).trans (hw3.mono (by have := hbel.size; omega))
      refine hb3.trans ⟨rfl, rfl, rfl, ?_, fun i hi => hother i (fun e => ?_)⟩
      · show w3.heap.size ≤ (w3.heap.setIfInBounds bm _).size
        simp
      · have := hS bm H.sm; omega
    · refine ⟨cs, bm, es', clk', fun m => if m = (l.getD k (0, [])).1 then some (wr.heap.size + 1) else bf m, tv, ?_⟩
      have hspl : (splice Try.zeroCells89.toList 0 ((l.getD k (0, [])).2.map (Value.int .u8))).toArray.size = 16384 := by
        rw [List.size_toArray, length_splice _ _ _ (by simp only [List.length_map, Array.length_toList, zb_size]; omega), Array.length_toList, zb_size]
      have HH := H.addBank (w' := { w3.drew with heap := w3.drew.heap.setIfInBounds bm (.map es' clk') }) (n := (l.getD k (0, [])).1) (x := wr.heap.size + 1) (g := fun j => (l.getD k (0, [])).2.getD j 0) hgone
        (fun i hi hb => by rw [hother i hb, old i (H.lt i hi)]) hsame him (by rw [hother _ hne]; exact hblk) hspl ?_ (fun i => hB.at_ i) (fun hs => by have := H.lt _ hs; omega)
      · exact HH
      · intro i hi
        rw [List.getElem?_toArray]; exact splice_zero _ o3 i hi
    · rcases hi with hi | rfl
      · exact hS i hi
      · have := hbel.size; omega
end Go.Proofs.Ytabeljpnmmfpgaa

namespace Go.Proofs.Ytabeljpnmmfpgaa
open Go.RowKit Go.MapKept
set_option linter.unusedVariables false
set_option linter.unusedSimpArgs false

/-- What New leaves: a memory with the banks, or the error. -/
def NewPost (w : World) (l : List (Int × List Int)) (e : Ending) (w' : World) : Prop :=
  Below w.heap.size w w' ∧ ((banksOk l ∧ e = .returned (.tuple #[.pointer (some ⟨w.heap.size + 1, 0, none⟩), .int .i64 0]) ∧ ∃ S, MemRep w' (w.heap.size + 1) (newMem l l.length) S ∧ ∀ i, S i → w.heap.size ≤ i) ∨
    (¬ banksOk l ∧ e = .returned (.tuple #[.pointer none, .int .i64 2])))

def NewRel (w wr : World) (l : List (Int × List Int)) (k : Nat) (la : Int) : Prop := NewInv w wr l k ∧ la = lastAt l k
theorem NewRel.bad {w wr : World} {l : List (Int × List Int)} {k : Nat} {la : Int} (h : NewRel w wr l k la) {w' : World} (hw : Below wr.heap.size wr w') (hk : k < l.length) (hbad : ¬ okAt l k) : NewPost w l (.returned (.tuple #[.pointer none, .int .i64 2])) w' :=
  ⟨h.1.2.1.trans (hw.mono h.1.2.1.size), .inr ⟨fun hb => hbad (hb k hk), rfl⟩⟩
theorem NewRel.done {w wr : World} {l : List (Int × List Int)} {k : Nat} {la : Int} (h : NewRel w wr l k la) (hk : k = l.length) : NewPost w l (.returned (.tuple #[.pointer (some ⟨w.heap.size + 1, 0, none⟩), .int .i64 0])) wr := by
  subst hk
  exact ⟨h.1.2.1, .inl ⟨h.1.1, rfl, h.1.2.2⟩⟩

set_option maxRecDepth 100000 in
set_option maxHeartbeats 2000000 in
theorem new_any (w : World) (v : Value) (l : List (Int × List Int)) (dv : Nat → Value) (hb : BanksIn w v l dv) (hlen : l.length ≤ 9223372036854775807) :
    Calls Try.prog 7 #[v] w (NewPost w l) := by
  obtain ⟨A, cap, rfl, hrow⟩ := hb.row
  have hmm := @run_makeMap Try.prog
  have start := Lib.hid (new_start w l)
  have HB := Lib.hid hb
  have HR := Lib.hid hrow
  clear hb hrow
  go_enter Try.func7, Try.ntmps7
  go_wp2_with (fail)
  go_loopw [5, 14] (fun last i wr => ∃ k : Nat, ∃ la : Int, k ≤ l.length ∧ i = .int .i64 k ∧ last = .int .i64 la ∧ NewRel w wr l k la) (fun _ i _ => l.length - (intOf i).toNat)
  case atStart => exact ⟨0, -1, Nat.zero_le _, rfl, rfl, start.out, rfl⟩
  case round =>
    obtain ⟨k, la, hk, rfl, rfl, hrel⟩ := hrel
    by_cases hlt : k < l.length
    · obtain ⟨ab, ao, rfl, hcc⟩ := HR.out (by omega)
      have hbw : Below w.heap.size w wr := hrel.1.2.1
      obtain ⟨da, dc, hd, _, hdata⟩ := HB.out.bytes k hlt
      have c0 : wr.cell? ⟨ab, ao + k * 2, none⟩ = some (.int .i64 (l.getD k (0, [])).1) := cell_keep hbw (hcc k hlt).1 (World.block_lt_of_cell? w _ (hcc k hlt).1)
      have c1 : wr.cell? ⟨ab, ao + k * 2 + 1, none⟩ = some (.slice da (l.getD k (0, [])).2.length dc) := hd ▸ cell_keep hbw (hcc k hlt).2 (World.block_lt_of_cell? w _ (hcc k hlt).2)
      have hle : lastAt l k = la := hrel.2.symm
      have hlast := lastAt_ge (l := l) (k := k) hrel.1.1
      have hby := HB.out.isB k hlt
      obtain ⟨p, hp⟩ : ∃ p, p = l.getD k (0, []) := ⟨_, rfl⟩
      rw [← hp] at c0 c1 hdata hby
      have Hok : Hid (okAt l k ↔ (la < p.1 ∧ p.1 ≤ 15 ∧ p.2.length ≤ 16384)) := by unfold okAt; rw [hle, ← hp]; exact Iff.rfl
      have Hp := Lib.hid hp
      have Hrel := Lib.hid hrel
      obtain ⟨nm, ds⟩ := p
      dsimp only at c0 c1 hdata hby Hok
      by_cases n1 : nm ≤ la
      · have d1 : decide (nm ≤ la) = true := by simpa using n1
        have fin : Hid (∀ w', Below wr.heap.size wr w' → NewPost w l (.returned (.tuple #[.pointer none, .int .i64 2])) w') := fun w' hw => Hrel.out.bad hw hlt (fun h => by have := Hok.out.1 h; omega)
        clear hle hp hd hrel hbw hcc hdata
        go_wp2_with (fail)
        go_ret2
        exact fin.out _ ((Below.refl _ _).alloc (Nat.le_refl _) _)
      have d1 : decide (nm ≤ la) = false := by simpa using n1
      by_cases n2 : 16 ≤ nm
      · have d2 : decide (16 ≤ nm) = true := by simpa using n2
        have fin : Hid (∀ w', Below wr.heap.size wr w' → NewPost w l (.returned (.tuple #[.pointer none, .int .i64 2])) w') := fun w' hw => Hrel.out.bad hw hlt (fun h => by have := Hok.out.1 h; omega)
        clear hle hp hd hrel hbw hcc hdata
        go_wp2_with (fail)
        go_ret2
        exact fin.out _ ((Below.refl _ _).alloc (Nat.le_refl _) _)
      have d2 : decide (16 ≤ nm) = false := by simpa using n2
      by_cases n3 : 16384 < ds.length
      · have d3 : decide ((16384 : Int) < (ds.length : Int)) = true := by simp; omega
        have fin : Hid (∀ w', Below wr.heap.size wr w' → NewPost w l (.returned (.tuple #[.pointer none, .int .i64 2])) w') := fun w' hw => Hrel.out.bad hw hlt (fun h => by have := Hok.out.1 h; omega)
        clear hle hp hd hrel hbw hcc hdata
        go_wp2_with (fail)
        go_ret2
        exact fin.out _ ((Below.refl _ _).alloc (Nat.le_refl _) _)
      have d3 : decide ((16384 : Int) < (ds.length : Int)) = false := by simp; omega
      have hok : okAt l k := Hok.out.2 ⟨by omega, by omega, by omega⟩
      have hz : Hid (((wr.alloc (.cells #[.int .i64 nm, .slice da ds.length dc] 37)).alloc (.cells Try.zeroCells89 89)).drew.heap[wr.heap.size + 1]? = some (.cells Try.zeroCells89.toList.toArray 89 (0, 0))) := by
        have := heap_alloc_at (wr.alloc (.cells #[.int .i64 nm, .slice da ds.length dc] 37)) (.cells Try.zeroCells89 89)
        rw [show (wr.alloc (.cells #[.int .i64 nm, .slice da ds.length dc] 37)).heap.size = wr.heap.size + 1 by simp] at this
        exact this
      have hcs' : Hid ((ds.map (Value.int .u8)).length = Nat.min ds.length 16384) := by show _ = _; rw [List.length_map]; exact (Nat.min_eq_left (by omega)).symm
      have hpos : Hid (0 < (ds.map (Value.int .u8)).length → ∃ ad, da = some ad ∧ ∀ j v, (ds.map (Value.int .u8))[j]? = some v → ((wr.alloc (.cells #[.int .i64 nm, .slice da ds.length dc] 37)).alloc (.cells Try.zeroCells89 89)).drew.cell? (ad.add j) = some v) := by
        intro h0
        obtain ⟨db, dO, rfl, hdd⟩ := hdata (by simpa using h0)
        refine ⟨_, rfl, fun j v hj => ?_⟩
        rw [List.getElem?_map] at hj
        obtain ⟨x, hx, rfl⟩ := Option.map_eq_some_iff.1 hj
        obtain ⟨hjl, hjx⟩ := List.getElem?_eq_some_iff.1 hx
        have e : (⟨db, dO, none⟩ : Addr).add j = ⟨db, dO + j, none⟩ := by unfold Addr.add; split <;> simp_all
        have hd0 := hdd j hjl
        rw [List.getD_eq_getElem?_getD, hx] at hd0
        have hlt0 := World.block_lt_of_cell? w _ hd0
        have hsz := hbw.size
        rw [e]
        show ((wr.alloc _).alloc _).cell? _ = _
        exact cell_keep (B := w.heap.size) ((hbw.alloc hsz _).alloc (by simp; omega) _) hd0 hlt0
      have h1c : Hid (∀ v ∈ ds.map (Value.int .u8), v.oneCell' = true) := by
        intro v hv
        obtain ⟨x, _, rfl⟩ := List.mem_map.1 hv
        rfl
      have hfit : Hid (0 + (ds.map (Value.int .u8)).length ≤ Try.zeroCells89.toList.length) := by
        show _ ≤ _
        rw [List.length_map, show Try.zeroCells89.toList.length = 16384 from zb_size]; omega
      have after : Hid (∀ w3 : World, Below (wr.heap.size + 1) ((wr.alloc (.cells #[.int .i64 nm, .slice da ds.length dc] 37)).alloc (.cells Try.zeroCells89 89)).drew w3 → w3.heap[wr.heap.size + 1]? = some (.cells (splice Try.zeroCells89.toList 0 (ds.map (Value.int .u8))).toArray 89 (0, 0)) →
          ∃ bm, w3.cell? ⟨w.heap.size + 1, 0, none⟩ = some (.map (some bm)) ∧ w3.cell? ⟨wr.heap.size, 0, none⟩ = some (.int .i64 nm) ∧
          ∃ w4, (Instr.mapUpdate 82 (.map (some bm)) (.int .u8 (nm % 256)) (.pointer (some ⟨wr.heap.size + 1, 0, none⟩))).run Try.prog w3.drew = .ok () w4 ∧ Hid (NewRel w w4 l (k + 1) nm)) := by
        intro w3 hb3 hh
        obtain ⟨bm, q1, w4, q2, q3⟩ := new_step Hrel.out.1 hok (by rw [← Hp.out]; exact hby) _ w3 hb3 (by rw [← Hp.out]; exact hh)
        refine ⟨bm, q1, ?_, w4, by rw [← Hp.out] at q2; rw [show nm % 256 = nm by omega]; exact q2, q3, by rw [lastAt_succ, ← Hp.out]⟩
        refine cell_keep hb3 ?_ (by show wr.heap.size < _; omega)
        show ((wr.alloc _).alloc _).cell? _ = _
        rw [World.cell?_of_block (w := wr.alloc (.cells #[.int .i64 nm, .slice da ds.length dc] 37)) (Below.heap_alloc _ _ _ (by simp)), cell_of (heap_alloc_at wr _)]
        rfl
      clear hle hp hd hrel hbw hcc hdata hok hby
      go_wp2_with (fail)
      go_region_law (refine step_copy_splice rfl (.tmp 39) (.tmp 41) 35 35 rfl 5 Try.underlying35 (by kernel_rfl) (some ⟨wr.heap.size + 1, 0, none⟩) da 16384 16384 ds.length dc (by simp [Act.eval]) (by simp [Act.eval]) (wr.heap.size + 1) 0 Try.zeroCells89.toList 89 hz.out (ds.map (Value.int .u8)) hcs'.out (fun h => ⟨rfl, hpos.out h⟩) hfit.out h1c.out (wr.heap.size + 1) _ (Below.refl _ _) (Nat.le_refl _) ?_; intro w3 hh hb3; obtain ⟨bm, m1, m2, w4, hput, hnew⟩ := after.out w3 hb3 hh.out; clear hb3 hh)
      all_goals
        go_wp2_with (fail)
        go_region
        all_goals
          go_wp2_with (fail)
          go_roundw
          case rel => exact ⟨k + 1, _, hlt, by go_num, rfl, hnew.out⟩
          case measure => simp [intOf]; omega
    · have hke : k = l.length := by omega
      have fin : Hid (NewPost w l (.returned (.tuple #[.pointer (some ⟨w.heap.size + 1, 0, none⟩), .int .i64 0])) wr) := hrel.done hke
      clear hke
      go_wp2_with (fail)
      go_ret2
      exact fin.out
end Go.Proofs.Ytabeljpnmmfpgaa
