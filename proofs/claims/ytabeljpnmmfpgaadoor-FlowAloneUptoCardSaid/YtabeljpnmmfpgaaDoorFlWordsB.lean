/-
  All words: what the walk of Words is told by.
-/
import Derived.Test.YtabeljpnmmfpgaaDoorFlWord
import Derived.Test.YtabeljpnmmfpgaaDoorFlSpec
import Derived.Test.YtabeljpnmmfpgaaDoorFlCheck
import Derived.Test.YtabeljpnmmfpgaaDoorFlSortW
namespace Go.Proofs.YtabeljpnmmfpgaaDoor
open Go.RowKit Go.MapKept Go.Maps Go.Sort
set_option linter.unusedVariables false
set_option linter.unusedSimpArgs false

/-! ### words by their addresses -/
def insW (x : FW) : List FW → List FW
  | [] => [x]
  | y :: l => if x.at_ < y.at_ then x :: y :: l else y :: insW x l
def sortFW (l : List FW) : List FW := l.foldr insW []
theorem insW_perm (x : FW) : ∀ l, (insW x l).Perm (x :: l)
  | [] => List.Perm.refl _
  | y :: l => by
    unfold insW
    split
    · exact List.Perm.refl _
    · exact ((insW_perm x l).cons y).trans (List.Perm.swap x y l)
theorem sortFW_perm : ∀ l, (sortFW l).Perm l
  | [] => List.Perm.refl _
  | x :: l => (insW_perm x (sortFW l)).trans ((sortFW_perm l).cons x)
theorem insW_sorted (x : FW) : ∀ l : List FW, l.Pairwise (fun a b => a.at_ < b.at_) → (∀ y ∈ l, y.at_ ≠ x.at_) → (insW x l).Pairwise (fun a b => a.at_ < b.at_)
  | [], _, _ => by simp [insW]
  | y :: l, h, hn => by
    obtain ⟨h1, h2⟩ := List.pairwise_cons.1 h
    have hy := hn y List.mem_cons_self
    unfold insW
    split
    · rename_i hx
      refine List.pairwise_cons.2 ⟨fun n hn => ?_, h⟩
      rcases List.mem_cons.1 hn with rfl | hn
      · exact hx
      · have := h1 n hn; omega
    · refine List.pairwise_cons.2 ⟨fun n hn' => ?_, insW_sorted x l h2 (fun z hz => hn z (List.mem_cons_of_mem _ hz))⟩
      rcases List.mem_cons.1 ((insW_perm x l).mem_iff.1 hn') with rfl | hn'
      · omega
      · exact h1 n hn'
theorem sortFW_sorted : ∀ l : List FW, (l.map FW.at_).Nodup → (sortFW l).Pairwise (fun a b => a.at_ < b.at_)
  | [], _ => List.Pairwise.nil
  | x :: l, h => by
    rw [List.map_cons, List.nodup_cons] at h
    refine insW_sorted x _ (sortFW_sorted l h.2) (fun y hy e => h.1 ?_)
    rw [← e]
    exact List.mem_map.2 ⟨y, (sortFW_perm l).mem_iff.1 hy, rfl⟩
/-- Two lists of words that rise and have the same words are one. -/
theorem riseW_eq : ∀ (l m : List FW), l.Pairwise (fun a b => a.at_ < b.at_) → m.Pairwise (fun a b => a.at_ < b.at_) → (∀ x, x ∈ l ↔ x ∈ m) → l = m
  | [], [], _, _, _ => rfl
  | [], b :: m, _, _, h => absurd ((h b).2 List.mem_cons_self) (by simp)
  | a :: l, [], _, _, h => absurd ((h a).1 List.mem_cons_self) (by simp)
  | a :: l, b :: m, hl, hm, h => by
    obtain ⟨l1, l2⟩ := List.pairwise_cons.1 hl
    obtain ⟨m1, m2⟩ := List.pairwise_cons.1 hm
    have e : a = b := by
      rcases List.mem_cons.1 ((h a).1 List.mem_cons_self) with e | e
      · exact e
      · rcases List.mem_cons.1 ((h b).2 List.mem_cons_self) with e' | e'
        · exact e'.symm
        · have := m1 a e; have := l1 b e'; omega
    subst e
    rw [riseW_eq l m l2 m2 (fun x => ?_)]
    constructor
    · intro hx
      rcases List.mem_cons.1 ((h x).1 (List.mem_cons_of_mem _ hx)) with e | e
      · have := l1 x hx; rw [e] at this; omega
      · exact e
    · intro hx
      rcases List.mem_cons.1 ((h x).2 (List.mem_cons_of_mem _ hx)) with e | e
      · have := m1 x hx; rw [e] at this; omega
      · exact e

/-! ### words in memory -/
/-- A word as it lies is this word. -/
structure WRep (W : World) (base : Nat) (t : WT) (x : FW) : Prop where
  at_ : (t.at_.val : Int) = x.at_
  rowi : RowI W base t.vi x.instrs
  rowc : RowU W base t.vc x.calls
theorem RowI.move {w W : World} {base : Nat} {v : Value} {l : List FI} (h : RowI w base v l) (hm : ∀ k, v.ownBlock = some k → W.heap[k]? = w.heap[k]?) : RowI W base v l := by
  obtain ⟨h1, h2⟩ := h
  refine ⟨h1, ?_⟩
  rcases h2 with h2 | ⟨g, cap, cur, rfl, hg, hh, r⟩
  · exact .inl h2
  · exact .inr ⟨g, cap, cur, rfl, hg, (hm g (by simp [Value.ownBlock])).trans hh, r⟩
theorem RowI.lower {w : World} {base base' : Nat} {v : Value} {l : List FI} (h : RowI w base v l) (hb : base' ≤ base) : RowI w base' v l := by
  obtain ⟨h1, h2⟩ := h
  refine ⟨h1, ?_⟩
  rcases h2 with h2 | ⟨g, cap, cur, rfl, hg, r⟩
  · exact .inl h2
  · exact .inr ⟨g, cap, cur, rfl, Nat.le_trans hb hg, r⟩
theorem RowW.move {w W : World} {base : Nat} {v : Value} {l : List WT} (h : RowW w base v l) (hm : ∀ k, v.ownBlock = some k → W.heap[k]? = w.heap[k]?) : RowW W base v l := by
  obtain ⟨h1, h2⟩ := h
  refine ⟨h1, ?_⟩
  rcases h2 with h2 | ⟨g, cap, cur, rfl, hg, hh, r⟩
  · exact .inl h2
  · exact .inr ⟨g, cap, cur, rfl, hg, (hm g (by simp [Value.ownBlock])).trans hh, r⟩
theorem RowW.lower {w : World} {base base' : Nat} {v : Value} {l : List WT} (h : RowW w base v l) (hb : base' ≤ base) : RowW w base' v l := by
  obtain ⟨h1, h2⟩ := h
  refine ⟨h1, ?_⟩
  rcases h2 with h2 | ⟨g, cap, cur, rfl, hg, r⟩
  · exact .inl h2
  · exact .inr ⟨g, cap, cur, rfl, Nat.le_trans hb hg, r⟩
theorem RowW.own {w : World} {base : Nat} {v : Value} {l : List WT} (h : RowW w base v l) (k : Nat) (hk : v.ownBlock = some k) : k < w.heap.size ∧ base ≤ k := by
  rcases h.2 with ⟨rfl, _⟩ | ⟨g, cap, cur, rfl, hb, hh, _⟩
  · simp [Value.ownBlock] at hk
  · have : g = k := by simpa [Value.ownBlock] using hk
    subst this
    exact ⟨heap_lt hh, hb⟩
theorem RowW.slice {w : World} {base : Nat} {v : Value} {l : List WT} (h : RowW w base v l) : ∃ A c, v = .slice A l.length c := by
  rcases h.2 with ⟨rfl, hn⟩ | ⟨g, cap, cur, rfl, _⟩
  · exact ⟨none, 0, by rw [hn]⟩
  · exact ⟨_, cap, rfl⟩
/-- The blocks of a word's lists; of all words'. -/
def WT.blks (t : WT) : List Nat := t.vi.ownBlock.toList ++ t.vc.ownBlock.toList
def blks (ts : List WT) : List Nat := ts.flatMap WT.blks
theorem WRep.move {w W : World} {base : Nat} {t : WT} {x : FW} (h : WRep w base t x) (hm : ∀ k, k ∈ t.blks → W.heap[k]? = w.heap[k]?) : WRep W base t x :=
  ⟨h.at_, h.rowi.move (fun k hk => hm k (by simp [WT.blks, hk])), h.rowc.move (fun k hk => hm k (by simp [WT.blks, hk]))⟩
theorem WRep.lt {w : World} {base : Nat} {t : WT} {x : FW} (h : WRep w base t x) (k : Nat) (hk : k ∈ t.blks) : k < w.heap.size ∧ base ≤ k := by
  unfold WT.blks at hk
  rcases List.mem_append.1 hk with hk | hk
  · exact h.rowi.own k (by simpa using hk)
  · exact h.rowc.lt k (by simpa using hk)
/-- Words as they lie, told by a list. -/
def Reps (W : World) (base : Nat) : List WT → List FW → Prop
  | [], [] => True
  | t :: ts, x :: ws => WRep W base t x ∧ Reps W base ts ws
  | _, _ => False
theorem Reps.lt {w : World} {base : Nat} : ∀ {ts : List WT} {ws : List FW}, Reps w base ts ws → ∀ k, k ∈ blks ts → k < w.heap.size ∧ base ≤ k
  | [], [], _, k, hk => by cases hk
  | t :: ts, x :: ws, h, k, hk => by
    unfold blks at hk
    rw [List.flatMap_cons] at hk
    rcases List.mem_append.1 hk with hk | hk
    · exact h.1.lt k hk
    · exact Reps.lt h.2 k hk
theorem Reps.move {w W : World} {base : Nat} : ∀ {ts : List WT} {ws : List FW}, Reps w base ts ws → (∀ k, k ∈ blks ts → W.heap[k]? = w.heap[k]?) → Reps W base ts ws
  | [], [], _, _ => trivial
  | t :: ts, x :: ws, h, hm => by
    unfold blks at hm
    rw [List.flatMap_cons] at hm
    exact ⟨h.1.move (fun k hk => hm k (List.mem_append_left _ hk)), Reps.move h.2 (fun k hk => hm k (List.mem_append_right _ hk))⟩
theorem Reps.len {w : World} {base : Nat} : ∀ {ts : List WT} {ws : List FW}, Reps w base ts ws → ts.length = ws.length
  | [], [], _ => rfl
  | t :: ts, x :: ws, h => by simp [Reps.len h.2]
theorem Reps.snoc {w : World} {base : Nat} : ∀ {ts : List WT} {ws : List FW}, Reps w base ts ws → ∀ {t : WT} {x : FW}, WRep w base t x → Reps w base (ts ++ [t]) (ws ++ [x])
  | [], [], _, _, _, k => ⟨k, trivial⟩
  | t :: ts, x :: ws, h, _, _, k => ⟨h.1, Reps.snoc h.2 k⟩
theorem Reps.lower {w : World} {base base' : Nat} (hb : base' ≤ base) : ∀ {ts : List WT} {ws : List FW}, Reps w base ts ws → Reps w base' ts ws
  | [], [], _ => trivial
  | t :: ts, x :: ws, h => ⟨⟨h.1.at_, h.1.rowi.lower hb, h.1.rowc.lower hb⟩, Reps.lower hb h.2⟩
theorem Reps.cons_inv {w : World} {base : Nat} {t : WT} {ts : List WT} : ∀ {ws : List FW}, Reps w base (t :: ts) ws → ∃ x l, ws = x :: l ∧ WRep w base t x ∧ Reps w base ts l
  | x :: l, h => ⟨x, l, rfl, h.1, h.2⟩
/-- The same words in another order. -/
theorem Reps.perm {w : World} {base : Nat} {ts ts' : List WT} (hp : ts'.Perm ts) : ∀ {ws : List FW}, Reps w base ts ws → ∃ ws', ws'.Perm ws ∧ Reps w base ts' ws' := by
  induction hp with
  | nil => intro ws h; exact ⟨ws, List.Perm.refl _, h⟩
  | cons a _ ih =>
    intro ws h
    obtain ⟨x, l, rfl, h1, h2⟩ := h.cons_inv
    obtain ⟨ws', p, r⟩ := ih h2
    exact ⟨_, p.cons x, h1, r⟩
  | swap a b l =>
    intro ws h
    obtain ⟨x, l1, rfl, h1, h2⟩ := h.cons_inv
    obtain ⟨y, l2, rfl, h3, h4⟩ := Reps.cons_inv h2
    exact ⟨_, List.Perm.swap x y l2, h3, h1, h4⟩
  | trans p q ih1 ih2 =>
    intro ws h
    obtain ⟨ws1, p1, r1⟩ := ih2 h
    obtain ⟨ws2, p2, r2⟩ := ih1 r1
    exact ⟨ws2, p2.trans p1, r2⟩
theorem Reps.find {w : World} {base : Nat} : ∀ {ts : List WT} {ws : List FW}, Reps w base ts ws → ∀ y ∈ ws, ∃ t ∈ ts, (t.at_.val : Int) = y.at_
  | [], [], _, y, hy => by cases hy
  | t :: ts, x :: ws, h, y, hy => by
    rcases List.mem_cons.1 hy with rfl | hy
    · exact ⟨_, List.mem_cons_self, h.1.at_⟩
    · obtain ⟨t', ht, e⟩ := Reps.find h.2 y hy
      exact ⟨t', List.mem_cons_of_mem _ ht, e⟩
theorem Reps.rise {w : World} {base : Nat} : ∀ {ts : List WT} {ws : List FW}, Reps w base ts ws → ts.Pairwise (fun a b => a.at_.val ≤ b.at_.val) → ws.Pairwise (fun a b => a.at_ ≤ b.at_)
  | [], [], _, _ => List.Pairwise.nil
  | t :: ts, x :: ws, h, hs => by
    obtain ⟨s1, s2⟩ := List.pairwise_cons.1 hs
    refine List.pairwise_cons.2 ⟨fun y hy => ?_, Reps.rise h.2 s2⟩
    obtain ⟨t', ht, e⟩ := Reps.find h.2 y hy
    have := s1 t' ht
    have := h.1.at_
    omega

/-- What Words hands out. -/
structure WordsAt (W : World) (base : Nat) (v : Value) (ts : List WT) (ws : List FW) : Prop where
  row : RowW W base v ts
  reps : Reps W base ts ws
  apart : (v.ownBlock.toList ++ blks ts).Nodup

theorem pairwise_lt_of_le {l : List FW} (h : l.Pairwise (fun a b => a.at_ ≤ b.at_)) (hn : (l.map FW.at_).Nodup) : l.Pairwise (fun a b => a.at_ < b.at_) := by
  induction l with
  | nil => exact List.Pairwise.nil
  | cons x l ih =>
    obtain ⟨h1, h2⟩ := List.pairwise_cons.1 h
    rw [List.map_cons, List.nodup_cons] at hn
    refine List.pairwise_cons.2 ⟨fun y hy => ?_, ih h2 hn.2⟩
    have := h1 y hy
    have hne : x.at_ ≠ y.at_ := fun e => hn.1 (by rw [e]; exact List.mem_map.2 ⟨y, hy, rfl⟩)
    omega
/-- Sorted by the library they are sorted. -/
theorem WordsAt.sorted {w W : World} {base : Nat} {v : Value} {ts : List WT} {acc : List FW} (h : WordsAt w base v ts acc) (hs : SortedW w base v ts W) (hn : (acc.map FW.at_).Nodup) : ∃ ts', WordsAt W base v ts' (sortFW acc) ∧ Upd w W (fun i => some i = v.ownBlock) := by
  obtain ⟨ts', p, hle, hr, hu⟩ := hs
  obtain ⟨ws', p2, r2⟩ := h.reps.perm p
  have hb : (blks ts').Perm (blks ts) := p.flatMap_right _
  have hmv : ∀ k, k ∈ blks ts' → W.heap[k]? = w.heap[k]? := fun k hk => by
    have hk' := hb.mem_iff.1 hk
    refine hu.block k (h.reps.lt k hk').1 (fun e => ?_)
    have := (List.nodup_append.1 h.apart).2.2 k (by simp [← e]) k hk'
    exact this rfl
  have e : ws' = sortFW acc := by
    refine riseW_eq _ _ (pairwise_lt_of_le (r2.rise hle) ((p2.map FW.at_).nodup_iff.2 hn)) (sortFW_sorted acc hn) (fun x => ?_)
    rw [p2.mem_iff, (sortFW_perm acc).mem_iff]
  refine ⟨ts', ⟨hr, ?_, ?_⟩, hu⟩
  · rw [← e]; exact r2.move hmv
  · exact ((List.Perm.refl _).append hb).nodup_iff.2 h.apart

/-- What Words answers. -/
def sortR : Except (Int × Int) (List FW) → Except (Int × Int) (List FW)
  | .error e => .error e
  | .ok acc => .ok (sortFW acc)
def wordsOf (kw k : Nat) (code : List Int) (entry : Int) : Option (Except (Int × Int) (List FW)) := (wsl code kw k [entry] [] [] []).map sortR
def WordsPost (w : World) (r : Except (Int × Int) (List FW)) (e : Ending) (w' : World) : Prop :=
  Below w.heap.size w w' ∧ match r with
    | .error (z, a) => e = .returned (.tuple #[.slice none 0 0, .agg #[.int .i64 z, .int .u16 a]])
    | .ok ws => ∃ v ts, e = .returned (.tuple #[v, .agg #[.int .i64 0, .int .u16 0]]) ∧ WordsAt w' w.heap.size v ts ws
end Go.Proofs.YtabeljpnmmfpgaaDoor
