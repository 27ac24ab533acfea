/-
  The reference's Words: what its walk is told by.
  The reference's Words: walked.
  The law's wholeCode: the code is as it was, and the marks behind.
-/
import Derived.Test.YtabeljpnmmfpgaaDoorFlRwE
import Derived.Test.YtabeljpnmmfpgaaDoorFlRwChk
import Derived.BigQuiet
import Derived.Deep.Cut
import Derived.Laws.BytesString
import Derived.Laws.Slices
namespace Go.Proofs.YtabeljpnmmfpgaaDoor
open Go.RowKit Go.MapKept Go.Maps Go.Sort
set_option linter.unusedVariables false
set_option linter.unusedSimpArgs false

/-- Words of the reference as they lie, told by a list. -/
def JReps (W : World) (base : Nat) : List WT → List FW → Prop
  | [], [] => True
  | t :: ts, x :: ws => CpW W base t x ∧ JReps W base ts ws
  | _, _ => False
theorem JReps.lt {w : World} {base : Nat} : ∀ {ts : List WT} {ws : List FW}, JReps w base ts ws → ∀ k, k ∈ blks ts → k < w.heap.size ∧ base ≤ k
  | [], [], _, k, hk => by cases hk
  | t :: ts, x :: ws, h, k, hk => by
    unfold blks at hk
    rw [List.flatMap_cons] at hk
    rcases List.mem_append.1 hk with hk | hk
    · exact h.1.lt k hk
    · exact JReps.lt h.2 k hk
theorem JReps.move {w W : World} {base : Nat} : ∀ {ts : List WT} {ws : List FW}, JReps w base ts ws → (∀ k, k ∈ blks ts → W.heap[k]? = w.heap[k]?) → JReps W base ts ws
  | [], [], _, _ => trivial
  | t :: ts, x :: ws, h, hm => by
    unfold blks at hm
    rw [List.flatMap_cons] at hm
    exact ⟨h.1.move (fun k hk => hm k (List.mem_append_left _ hk)), JReps.move h.2 (fun k hk => hm k (List.mem_append_right _ hk))⟩
theorem JReps.len {w : World} {base : Nat} : ∀ {ts : List WT} {ws : List FW}, JReps w base ts ws → ts.length = ws.length
  | [], [], _ => rfl
  | t :: ts, x :: ws, h => by simp [JReps.len h.2]
theorem JReps.snoc {w : World} {base : Nat} : ∀ {ts : List WT} {ws : List FW}, JReps w base ts ws → ∀ {t : WT} {x : FW}, CpW w base t x → JReps w base (ts ++ [t]) (ws ++ [x])
  | [], [], _, _, _, k => ⟨k, trivial⟩
  | t :: ts, x :: ws, h, _, _, k => ⟨h.1, JReps.snoc h.2 k⟩
theorem JReps.cons_inv {w : World} {base : Nat} {t : WT} {ts : List WT} : ∀ {ws : List FW}, JReps w base (t :: ts) ws → ∃ x l, ws = x :: l ∧ CpW w base t x ∧ JReps w base ts l
  | x :: l, h => ⟨x, l, rfl, h.1, h.2⟩
theorem JReps.perm {w : World} {base : Nat} {ts ts' : List WT} (hp : ts'.Perm ts) : ∀ {ws : List FW}, JReps w base ts ws → ∃ ws', ws'.Perm ws ∧ JReps w base ts' ws' := by
  induction hp with
  | nil => intro ws h; exact ⟨ws, List.Perm.refl _, h⟩
  | cons a _ ih =>
    intro ws h
    obtain ⟨x, l, rfl, h1, h2⟩ := h.cons_inv
    obtain ⟨ws', p, r⟩ := ih h2
    exact ⟨_, p.cons x, h1, r⟩
  | swap a b l =>
    intro ws h
    obtain ⟨x, l1, rfl, h1, h2⟩ := h.cons_inv
    obtain ⟨y, l2, rfl, h3, h4⟩ := JReps.cons_inv h2
    exact ⟨_, List.Perm.swap x y l2, h3, h1, h4⟩
  | trans p q ih1 ih2 =>
    intro ws h
    obtain ⟨ws1, p1, r1⟩ := ih2 h
    obtain ⟨ws2, p2, r2⟩ := ih1 r1
    exact ⟨ws2, p2.trans p1, r2⟩
theorem JReps.find {w : World} {base : Nat} : ∀ {ts : List WT} {ws : List FW}, JReps w base ts ws → ∀ y ∈ ws, ∃ t ∈ ts, (t.at_.val : Int) = y.at_
  | [], [], _, y, hy => by cases hy
  | t :: ts, x :: ws, h, y, hy => by
    rcases List.mem_cons.1 hy with rfl | hy
    · exact ⟨_, List.mem_cons_self, h.1.at_⟩
    · obtain ⟨t', ht, e⟩ := JReps.find h.2 y hy
      exact ⟨t', List.mem_cons_of_mem _ ht, e⟩
theorem JReps.rise {w : World} {base : Nat} : ∀ {ts : List WT} {ws : List FW}, JReps w base ts ws → ts.Pairwise (fun a b => a.at_.val ≤ b.at_.val) → ws.Pairwise (fun a b => a.at_ ≤ b.at_)
  | [], [], _, _ => List.Pairwise.nil
  | t :: ts, x :: ws, h, hs => by
    obtain ⟨s1, s2⟩ := List.pairwise_cons.1 hs
    refine List.pairwise_cons.2 ⟨fun y hy => ?_, JReps.rise h.2 s2⟩
    obtain ⟨t', ht, e⟩ := JReps.find h.2 y hy
    have := s1 t' ht
    have := h.1.at_
    omega
theorem JReps.get {w : World} {base : Nat} : ∀ {ts : List WT} {ws : List FW}, JReps w base ts ws → ∀ (i : Nat) (h1 : i < ts.length) (h2 : i < ws.length), CpW w base ts[i] ws[i]
  | t :: ts, x :: ws, h, 0, _, _ => h.1
  | t :: ts, x :: ws, h, i + 1, h1, h2 => by simpa using JReps.get h.2 i (by simpa using h1) (by simpa using h2)
/-- Such words are read. -/
theorem jreps_fwin {w : World} {base n c : Nat} {A : Option Addr} {ts : List WT} {ws : List FW} (hx : RowX w base (.slice A n c) ts) (hr : JReps w base ts ws) (hs : ∀ x ∈ ws, (0 ≤ x.at_ ∧ x.at_ < 65536) ∧ x.instrs.length ≤ 2000000 ∧ x.calls.length ≤ 2000000) : FWin w A ws := fun i hi => by
  have hi' : i < ts.length := by rw [hr.len]; exact hi
  have q := hr.get i hi' hi
  obtain ⟨⟨a0, a1⟩, s1, s2⟩ := hs _ (List.getElem_mem hi)
  obtain ⟨g, rfl, c0, c1, c2⟩ := hx.at_ hi'
  rw [q.at_] at c0
  obtain ⟨t, ht⟩ : ∃ t, t = ts[i] := ⟨_, rfl⟩
  obtain ⟨x, hxx⟩ : ∃ x, x = ws[i] := ⟨_, rfl⟩
  rw [← ht] at q c1 c2
  rw [← hxx] at q c0 a0 a1 s1 s2 ⊢
  obtain ⟨ta, ia, il, ic, ca, cl, cc⟩ := t
  have e1 : il = x.instrs.length := q.il
  have e2 : cl = x.calls.length := q.cl
  subst e1 e2
  refine ⟨g, 0, ia, ic, ca, cc, rfl, ?_⟩
  rw [Nat.zero_add]
  exact ⟨a0, a1, c0, c1, c2, insIn_of_row q.ins s1, RowU.atsIn q.calls (by omega), s2, fun e => by
    rcases q.calls.2 with ⟨e1, _⟩ | ⟨g', cap, cur, e1, _⟩
    · have e1 : Value.slice ca x.calls.length cc = .slice none 0 0 := e1
      injection e1
    · have e1 : Value.slice ca x.calls.length cc = .slice (some ⟨g', 0, none⟩) x.calls.length cap := e1
      rw [e] at e1
      cases e1⟩

/-! ### blocks that lie apart -/
theorem nd_put {a a' : Option Nat} {l : List Nat} {s : Nat} (h : (a.toList ++ l).Nodup) (hl : ∀ k ∈ l, k < s) (hn : a' = a ∨ ∃ b, a' = some b ∧ s ≤ b) : (a'.toList ++ l).Nodup := by
  rcases hn with rfl | ⟨b, rfl, hb⟩
  · exact h
  · exact List.nodup_cons.2 ⟨fun hm => by have := hl b hm; omega, (List.nodup_append.1 h).2.1⟩
theorem nd_ne {a : Option Nat} {l : List Nat} (h : (a.toList ++ l).Nodup) {k : Nat} (hk : k ∈ l) : some k ≠ a := fun e => (List.nodup_append.1 h).2.2 k (by simp [← e]) k hk rfl

/-- The world while the words are gone along. -/
structure RWd (w W : World) (cart : Array Value) (vo vd vx : Value) (o seen : List Int) (ts : List WT) (acc : List FW) : Prop where
  below : Below w.heap.size w W
  box : W.heap[w.heap.size]? = some (.cells cart 27 (0, 0))
  ro : RowU W (w.heap.size + 1) vo o
  rd : RowU W (w.heap.size + 1) vd seen
  rx : RowX W (w.heap.size + 1) vx ts
  reps : JReps W (w.heap.size + 1) ts acc
  apart : (vo.ownBlock.toList ++ (vd.ownBlock.toList ++ (vx.ownBlock.toList ++ blks ts))).Nodup
section
variable {w W W' : World} {cart : Array Value} {vo vd vx v' : Value} {o o' seen : List Int} {ts : List WT} {acc : List FW}
theorem RWd.mem (h : RWd w W cart vo vd vx o seen ts acc) {k : Nat} (hk : k ∈ vo.ownBlock.toList ++ (vd.ownBlock.toList ++ (vx.ownBlock.toList ++ blks ts))) : k < W.heap.size ∧ w.heap.size + 1 ≤ k := by
  rcases List.mem_append.1 hk with hk | hk
  · exact ownsRow_own h.ro k (by simpa using hk)
  rcases List.mem_append.1 hk with hk | hk
  · exact ownsRow_own h.rd k (by simpa using hk)
  rcases List.mem_append.1 hk with hk | hk
  · exact h.rx.own k (by simpa using hk)
  · exact h.reps.lt k hk
theorem RWd.bel (h : RWd w W cart vo vd vx o seen ts acc) (hb : Below W.heap.size W W') : RWd w W' cart vo vd vx o seen ts acc := by
  have kp : ∀ k, k ∈ vo.ownBlock.toList ++ (vd.ownBlock.toList ++ (vx.ownBlock.toList ++ blks ts)) → W'.heap[k]? = W.heap[k]? := fun k hk => hb.block k (h.mem hk).1
  exact ⟨b_then h.below hb, (hb.block _ (heap_lt h.box)).trans h.box, h.ro.move (fun k hk => kp k (by simp [hk])), h.rd.move (fun k hk => kp k (by simp [hk])), h.rx.move (fun k hk => kp k (by simp [hk])), h.reps.move (fun k hk => kp k (by simp [hk])), h.apart⟩
theorem RWd.setO (h : RWd w W cart vo vd vx o seen ts acc) (hu : Upd W W' (fun k => some k = vo.ownBlock)) (hr : RowU W' (w.heap.size + 1) v' o') (hn : v'.ownBlock = vo.ownBlock ∨ ∃ b, v'.ownBlock = some b ∧ W.heap.size ≤ b) : RWd w W' cart v' vd vx o' seen ts acc := by
  have hs := heap_lt h.box
  have ob : ∀ k, some k = vo.ownBlock → w.heap.size + 1 ≤ k := fun k hk => (ownsRow_own h.ro k hk.symm).2
  have kp : ∀ k, k ∈ vd.ownBlock.toList ++ (vx.ownBlock.toList ++ blks ts) → W'.heap[k]? = W.heap[k]? := fun k hk => hu.block k (h.mem (List.mem_append_right _ hk)).1 (nd_ne h.apart hk)
  exact ⟨h.below.trans (hu.below (by omega) (fun k hk => by have := ob k hk; omega)), (hu.block _ hs (fun e => by have := ob _ e; omega)).trans h.box, hr, h.rd.move (fun k hk => kp k (by simp [hk])), h.rx.move (fun k hk => kp k (by simp [hk])), h.reps.move (fun k hk => kp k (by simp [hk])), nd_put h.apart (fun k hk => (h.mem (List.mem_append_right _ hk)).1) hn⟩
theorem perm3 (a b c : List Nat) : (a ++ (b ++ c)).Perm (b ++ (a ++ c)) := by
  rw [← List.append_assoc, ← List.append_assoc]
  exact List.perm_append_comm.append_right c
theorem RWd.setD (h : RWd w W cart vo vd vx o seen ts acc) (hu : Upd W W' (fun k => some k = vd.ownBlock)) (hr : RowU W' (w.heap.size + 1) v' o') (hn : v'.ownBlock = vd.ownBlock ∨ ∃ b, v'.ownBlock = some b ∧ W.heap.size ≤ b) : RWd w W' cart vo v' vx o o' ts acc := by
  have hs := heap_lt h.box
  have ap := (perm3 _ _ _).nodup_iff.1 h.apart
  have mem : ∀ k, k ∈ vo.ownBlock.toList ++ (vx.ownBlock.toList ++ blks ts) → k < W.heap.size ∧ w.heap.size + 1 ≤ k := fun k hk => h.mem ((perm3 _ _ _).mem_iff.2 (List.mem_append_right _ hk))
  have ob : ∀ k, some k = vd.ownBlock → w.heap.size + 1 ≤ k := fun k hk => (ownsRow_own h.rd k hk.symm).2
  have kp : ∀ k, k ∈ vo.ownBlock.toList ++ (vx.ownBlock.toList ++ blks ts) → W'.heap[k]? = W.heap[k]? := fun k hk => hu.block k (mem k hk).1 (nd_ne ap hk)
  exact ⟨h.below.trans (hu.below (by omega) (fun k hk => by have := ob k hk; omega)), (hu.block _ hs (fun e => by have := ob _ e; omega)).trans h.box, h.ro.move (fun k hk => kp k (by simp [hk])), hr, h.rx.move (fun k hk => kp k (by simp [hk])), h.reps.move (fun k hk => kp k (by simp [hk])), (perm3 _ _ _).nodup_iff.1 (nd_put ap (fun k hk => (mem k hk).1) hn)⟩
/-- A word appended. -/
theorem RWd.add {t : WT} {x : FW} {ob : Obj} {g' cap' n : Nat} (h : RWd w W cart vo vd vx o seen ts acc) (hn : n = ts.length) (hrep : CpW W (w.heap.size + 1) t x)
    (hnew : ∀ k ∈ t.blks, k ∉ vo.ownBlock.toList ++ (vd.ownBlock.toList ++ (vx.ownBlock.toList ++ blks ts))) (hnd : t.blks.Nodup) (hgr : World.grownBy (W.alloc ob) W' vx.ownBlock)
    (ho : W'.ownsRow (w.heap.size + 1) 76 3 (.slice (some ⟨g', 0, none⟩) (n + 1) cap') (n + 1) ((ts.flatMap WT.cells) ++ t.cells)) (hat : some g' = vx.ownBlock ∨ W.heap.size ≤ g') :
    RWd w W' cart vo vd (.slice (some ⟨g', 0, none⟩) (n + 1) cap') o seen (ts ++ [t]) (acc ++ [x]) := by
  have hs := heap_lt h.box
  have e1 : (W.alloc ob).heap.size = W.heap.size + 1 := by simp
  have kb : ∀ i, i < W.heap.size → some i ≠ vx.ownBlock → W'.heap[i]? = W.heap[i]? := fun i hi hn => (hgr.block i (by omega) (fun e => hn (by rw [e]))).trans (Below.heap_alloc _ _ _ hi)
  have p1 : (vo.ownBlock.toList ++ (vd.ownBlock.toList ++ (vx.ownBlock.toList ++ blks ts))).Perm (vx.ownBlock.toList ++ (vo.ownBlock.toList ++ (vd.ownBlock.toList ++ blks ts))) := ((perm3 vd.ownBlock.toList vx.ownBlock.toList (blks ts)).append_left _).trans (perm3 _ _ _)
  have ap := p1.nodup_iff.1 h.apart
  have mem : ∀ k, k ∈ vx.ownBlock.toList ++ (vo.ownBlock.toList ++ (vd.ownBlock.toList ++ blks ts)) → k < W.heap.size ∧ w.heap.size + 1 ≤ k := fun k hk => h.mem (p1.mem_iff.2 hk)
  have kp : ∀ k, k ∈ vo.ownBlock.toList ++ (vd.ownBlock.toList ++ blks ts) → W'.heap[k]? = W.heap[k]? := fun k hk => kb k (mem k (List.mem_append_right _ hk)).1 (nd_ne ap hk)
  have kt : ∀ k, k ∈ t.blks → W'.heap[k]? = W.heap[k]? := fun k hk => kb k (hrep.lt k hk).1 (fun e => hnew k hk (by simp [← e]))
  have ob' : ∀ k, vx.ownBlock = some k → w.heap.size + 1 ≤ k := fun k hk => (h.rx.own k hk).2
  refine ⟨?_, (kb _ hs (fun e => by have := ob' _ e.symm; omega)).trans h.box, h.ro.move (fun k hk => kp k (by simp [hk])), h.rd.move (fun k hk => kp k (by simp [hk])), ?_, ?_, ?_⟩
  · have hb2 := b_alloc h.below ob
    exact hb2.grown hgr hb2.size (fun k hk => by have := ob' k hk; omega)
  · unfold RowX
    rw [show (ts ++ [t]).length = n + 1 by simp [hn], List.flatMap_append]
    simpa using ho
  · exact JReps.snoc (h.reps.move (fun k hk => kp k (by simp [hk]))) (hrep.move kt)
  · have eb : blks (ts ++ [t]) = blks ts ++ t.blks := by unfold blks; simp
    have m1 : ((vo.ownBlock.toList ++ (vd.ownBlock.toList ++ blks ts)) ++ t.blks).Nodup := by
      refine List.nodup_append.2 ⟨(List.nodup_append.1 ap).2.1, hnd, fun a ha b hb e => ?_⟩
      subst e
      exact hnew a hb (p1.mem_iff.2 (List.mem_append_right _ ha))
    have m2 : (g' :: ((vo.ownBlock.toList ++ (vd.ownBlock.toList ++ blks ts)) ++ t.blks)).Nodup := by
      refine List.nodup_cons.2 ⟨fun hm => ?_, m1⟩
      rcases hat with hat | hat
      · rcases List.mem_append.1 hm with hm | hm
        · exact nd_ne ap hm hat
        · exact hnew g' hm (by simp [← hat])
      · rcases List.mem_append.1 hm with hm | hm
        · have := (mem g' (List.mem_append_right _ hm)).1; omega
        · have := (hrep.lt g' hm).1; omega
    have eo : (Value.slice (some ⟨g', 0, none⟩) (n + 1) cap').ownBlock = some g' := rfl
    rw [eb, eo]
    refine (List.Perm.nodup_iff ?_).1 m2
    rw [List.append_assoc, List.append_assoc]
    show ([g'] ++ (vo.ownBlock.toList ++ (vd.ownBlock.toList ++ (blks ts ++ t.blks)))).Perm (vo.ownBlock.toList ++ (vd.ownBlock.toList ++ ([g'] ++ (blks ts ++ t.blks))))
    exact (perm3 _ _ _).trans ((perm3 _ _ _).append_left _)
end

/-! ### words put in order -/
def midL (l : List WT) (x : WT) (i : Nat) : List WT := l.take i ++ x :: l.drop i
theorem midL_len (l : List WT) (x : WT) (i : Nat) (hi : i ≤ l.length) : (midL l x i).length = l.length + 1 := by simp [midL]; omega
theorem midL_perm (l : List WT) (x : WT) (i : Nat) : (midL l x i).Perm (x :: l) := by
  unfold midL
  exact List.perm_middle.trans (by rw [List.take_append_drop])
theorem midL_end (l : List WT) (x : WT) (r : List WT) : midL l x l.length ++ r = l ++ x :: r := by simp [midL]
theorem midL_at {l : List WT} {x : WT} {r : List WT} {i : Nat} (hi : i ≤ l.length) : (midL l x i ++ r)[i]'(by rw [List.length_append, midL_len l x i hi]; omega) = x := by
  rw [List.getElem_append_left (by rw [midL_len l x i hi]; omega)]
  unfold midL
  rw [List.getElem_append_right (by simp; omega)]
  simp [Nat.min_eq_left hi]
theorem midL_pre {l : List WT} {x : WT} {r : List WT} {i : Nat} (hi : i + 1 ≤ l.length) : (midL l x (i + 1) ++ r)[i]'(by rw [List.length_append, midL_len l x _ hi]; omega) = l[i] := by
  rw [List.getElem_append_left (by rw [midL_len l x _ hi]; omega)]
  unfold midL
  rw [List.getElem_append_left (by simp; omega)]
  simp
theorem midL_swap {l : List WT} {x : WT} {r : List WT} {i : Nat} (hi : i + 1 ≤ l.length) : ((midL l x (i + 1) ++ r).set i x).set (i + 1) l[i] = midL l x i ++ r := by
  have h1 : (l.take (i + 1)).length = i + 1 := by simp; omega
  have h2 : (l.take i).length = i := by simp; omega
  have h3 := midL_len l x (i + 1) hi
  rw [List.set_append_left _ _ (by omega), List.set_append_left _ _ (by rw [List.length_set]; omega)]
  congr 1
  unfold midL
  rw [← List.take_append_getElem (show i < l.length by omega), List.append_assoc, List.set_append_right _ _ (by omega), h2, Nat.sub_self, List.set_append_right _ _ (by omega), h2, show i + 1 - i = 1 by omega, List.drop_eq_getElem_cons (show i < l.length by omega)]
  rfl
/-- In its place it leaves a list that rises. -/
theorem midL_rise {l : List WT} {x : WT} {i : Nat} (hi : i ≤ l.length) (hs : l.Pairwise (fun a b => a.at_.val ≤ b.at_.val)) (h1 : ∀ (j : Nat) (hj : j < l.length), i ≤ j → x.at_.val ≤ (l[j]).at_.val) (h2 : ∀ (j : Nat) (hj : j < l.length), j + 1 = i → (l[j]).at_.val ≤ x.at_.val) : (midL l x i).Pairwise (fun a b => a.at_.val ≤ b.at_.val) := by
  unfold midL
  have hx : ∀ b ∈ l.drop i, x.at_.val ≤ b.at_.val := fun b hb => by
    obtain ⟨j, hj, rfl⟩ := List.getElem_of_mem hb
    rw [List.getElem_drop]
    exact h1 _ (by rw [List.length_drop] at hj; omega) (by omega)
  have hp : ∀ a ∈ l.take i, a.at_.val ≤ x.at_.val := fun a ha => by
    obtain ⟨j, hj, rfl⟩ := List.getElem_of_mem ha
    rw [List.length_take] at hj
    rw [List.getElem_take]
    have h3 := h2 (i - 1) (by omega) (by omega)
    by_cases e : j = i - 1
    · subst e; exact h3
    · have := List.pairwise_iff_getElem.1 hs j (i - 1) (by omega) (by omega) (by omega)
      omega
  have hs' : (l.take i ++ l.drop i).Pairwise (fun a b => a.at_.val ≤ b.at_.val) := by rw [List.take_append_drop]; exact hs
  obtain ⟨s1, s2, s3⟩ := List.pairwise_append.1 hs'
  refine List.pairwise_append.2 ⟨s1, List.pairwise_cons.2 ⟨hx, s2⟩, fun a ha b hb => ?_⟩
  rcases List.mem_cons.1 hb with rfl | hb
  · exact hp a ha
  · exact s3 a ha b hb
theorem flat3_set : ∀ (l : List WT) (i : Nat) (hi : i < l.length) (x : WT), (l.set i x).flatMap WT.cells = (((l.flatMap WT.cells).set (i * 3) (.int .u16 (x.at_.val : Int))).set (i * 3 + 1) x.vi).set (i * 3 + 2) x.vc
  | y :: l, 0, _, x => by
    simp only [List.set_cons_zero, List.flatMap_cons]
    rfl
  | y :: l, i + 1, hi, x => by
    have h5 : y.cells.length = 3 := rfl
    simp only [List.set_cons_succ, List.flatMap_cons]
    rw [flat3_set l i (by simpa using hi) x, List.set_append_right _ _ (by omega), List.set_append_right _ _ (by omega), List.set_append_right _ _ (by omega), h5,
      show (i + 1) * 3 - 3 = i * 3 by omega, show (i + 1) * 3 + 1 - 3 = i * 3 + 1 by omega, show (i + 1) * 3 + 2 - 3 = i * 3 + 2 by omega]
/-- A word's three cells written. -/
theorem own_setX {w : World} {base g n c i : Nat} {l : List WT} {x : WT} (h : RowX w base (.slice (some ⟨g, 0, none⟩) n c) l) (hi : i < l.length) :
    RowX (World.setCell (World.setCell (World.setCell w ⟨g, i * 3, none⟩ (.int .u16 (x.at_.val : Int))) ⟨g, i * 3 + 1, none⟩ x.vi) ⟨g, i * 3 + 2, none⟩ x.vc) base (.slice (some ⟨g, 0, none⟩) n c) (l.set i x) := by
  have hn : n = l.length := by
    rcases h.2 with ⟨e1, _⟩ | ⟨g', cap, cur, e1, _⟩
    · cases e1
    · injection e1
  subst hn
  have e := flat3_set l i hi x
  unfold RowX
  rw [List.length_set, e]
  have h' : w.ownsRow base 76 3 (.slice (some ⟨g, 0, none⟩) l.length c) l.length (l.flatMap WT.cells) := h
  exact own_set5 (own_set5 (own_set5 h' (by omega)) (by omega)) (by omega)
theorem RowX.free {w : World} {base g n c : Nat} {l : List WT} (h : RowX w base (.slice (some ⟨g, 0, none⟩) n c) l) (i : Nat) : w.frozen? ⟨g, i, none⟩ = false := by
  rcases h.2 with ⟨e1, _⟩ | ⟨g', cap', cur, e1, _, hh, _⟩
  · cases e1
  · cases e1
    exact free_of hh _
/-- Two words of the row changed about. -/
theorem own_swapX {W0 w W1 : World} {base g n c i : Nat} {l r : List WT} {x y : WT} {xv yv : Int} (hxv : xv = (x.at_.val : Int)) (hyv : yv = (y.at_.val : Int)) (h : RowX w base (.slice (some ⟨g, 0, none⟩) n c) (midL l x (i + 1) ++ r)) (hW : W1 = w ∨ W1 = w.drew) (hi : i + 1 ≤ l.length) (hy : y = l[i]'(by omega)) (hu : Upd W0 w (fun k => some k = (Value.slice (some ⟨g, 0, none⟩) n c).ownBlock)) :
    RowX (World.setCell (World.setCell (World.setCell (World.setCell (World.setCell (World.setCell W1 ⟨g, i * 3, none⟩ (.int .u16 xv)) ⟨g, i * 3 + 1, none⟩ x.vi) ⟨g, i * 3 + 2, none⟩ x.vc) ⟨g, (i + 1) * 3, none⟩ (.int .u16 yv)) ⟨g, (i + 1) * 3 + 1, none⟩ y.vi) ⟨g, (i + 1) * 3 + 2, none⟩ y.vc) base (.slice (some ⟨g, 0, none⟩) n c) (midL l x i ++ r) ∧
    Upd W0 (World.setCell (World.setCell (World.setCell (World.setCell (World.setCell (World.setCell W1 ⟨g, i * 3, none⟩ (.int .u16 xv)) ⟨g, i * 3 + 1, none⟩ x.vi) ⟨g, i * 3 + 2, none⟩ x.vc) ⟨g, (i + 1) * 3, none⟩ (.int .u16 yv)) ⟨g, (i + 1) * 3 + 1, none⟩ y.vi) ⟨g, (i + 1) * 3 + 2, none⟩ y.vc) (fun k => some k = (Value.slice (some ⟨g, 0, none⟩) n c).ownBlock) := by
  subst hxv hyv
  have h1 : RowX W1 base (.slice (some ⟨g, 0, none⟩) n c) (midL l x (i + 1) ++ r) := by
    rcases hW with rfl | rfl
    · exact h
    · exact h
  have hu1 : Upd W0 W1 (fun k => some k = (Value.slice (some ⟨g, 0, none⟩) n c).ownBlock) := by
    rcases hW with rfl | rfl
    · exact hu
    · exact hu.drew
  have hl : (midL l x (i + 1) ++ r).length = l.length + 1 + r.length := by rw [List.length_append, midL_len l x _ hi]
  constructor
  · rw [← midL_swap (x := x) (r := r) hi, ← hy]
    exact own_setX (own_setX h1 (by omega)) (by rw [List.length_set]; omega)
  · exact (((((hu1.setCell (p := ⟨g, i * 3, none⟩) (fun _ => rfl) _).setCell (p := ⟨g, i * 3 + 1, none⟩) (fun _ => rfl) _).setCell (p := ⟨g, i * 3 + 2, none⟩) (fun _ => rfl) _).setCell (p := ⟨g, (i + 1) * 3, none⟩) (fun _ => rfl) _).setCell (p := ⟨g, (i + 1) * 3 + 1, none⟩) (fun _ => rfl) _).setCell (p := ⟨g, (i + 1) * 3 + 2, none⟩) (fun _ => rfl) _

/-- What the reference's Words answers. -/
structure RWordsAt (W : World) (base : Nat) (v : Value) (ts : List WT) (ws : List FW) : Prop where
  row : RowX W base v ts
  reps : JReps W base ts ws
def RWordsPost (w : World) (r : Except (Int × Int) (List FW)) (e : Ending) (w' : World) : Prop :=
  Below w.heap.size w w' ∧ match r with
    | .error (z, a) => e = .returned (.tuple #[.slice none 0 0, .int .i64 z, .int .u16 a])
    | .ok ws => ∃ v ts, e = .returned (.tuple #[v, .int .i64 0, .int .u16 0]) ∧ RWordsAt w' w.heap.size v ts ws
/-- Sorted they are the program's. -/
theorem jreps_sorted {W0 W : World} {base : Nat} {v : Value} {ts ts' : List WT} {acc : List FW} (h : JReps W0 base ts acc) (hn : (acc.map FW.at_).Nodup) (hp : ts'.Perm ts) (hs : ts'.Pairwise (fun a b => a.at_.val ≤ b.at_.val)) (hg : ∀ k ∈ blks ts, some k ≠ v.ownBlock) (hu : Upd W0 W (fun k => some k = v.ownBlock)) : JReps W base ts' (sortFW acc) := by
  obtain ⟨ws', p2, r2⟩ := h.perm hp
  have hb : (blks ts').Perm (blks ts) := hp.flatMap_right _
  have e : ws' = sortFW acc := by
    refine riseW_eq _ _ (pairwise_lt_of_le (r2.rise hs) ((p2.map FW.at_).nodup_iff.2 hn)) (sortFW_sorted acc hn) (fun x => ?_)
    rw [p2.mem_iff, (sortFW_perm acc).mem_iff]
  rw [← e]
  exact r2.move (fun k hk => hu.block k (r2.lt k hk).1 (hg k (hb.mem_iff.1 hk)))
theorem JReps.last {w : World} {base : Nat} {t : WT} {x : FW} : ∀ {ts : List WT} {ws : List FW}, JReps w base (ts ++ [t]) (ws ++ [x]) → ts.length = ws.length → CpW w base t x
  | [], [], h, _ => h.1
  | _ :: ts, _ :: ws, h, e => JReps.last (ts := ts) (ws := ws) h.2 (by simpa using e)
  | [], _ :: _, _, e => by simp at e
  | _ :: _, [], _, e => by simp at e
end Go.Proofs.YtabeljpnmmfpgaaDoor

namespace Go.Proofs.YtabeljpnmmfpgaaDoor
open Go.RowKit Go.MapKept Go.Maps Go.Sort
set_option linter.unusedVariables false
set_option linter.unusedSimpArgs false

theorem pushW_len_le (f : List Int) : ∀ l o : List Int, (l.foldl (pushW f) o).length ≤ o.length + l.length
  | [], o => by simp
  | y :: l, o => by
    have h1 := pushW_len_le f l (pushW f o y)
    have h2 : (pushW f o y).length ≤ o.length + 1 := by
      unfold pushW
      split
      · omega
      · exact ins_len_le y o
    simp only [List.foldl_cons, List.length_cons]
    omega
theorem JReps.lower {w : World} {base base' : Nat} (hb : base' ≤ base) : ∀ {ts : List WT} {ws : List FW}, JReps w base ts ws → JReps w base' ts ws
  | [], [], _ => trivial
  | t :: ts, x :: ws, h => ⟨⟨h.1.at_, h.1.il, h.1.cl, ownsRow_lower h.1.ins hb, h.1.calls.lower hb⟩, JReps.lower hb h.2⟩

set_option maxRecDepth 100000 in
set_option maxHeartbeats 4000000 in
/-- A cartridge that may not be. -/
theorem rwords_bad (w : World) (A : Option Addr) (n c : Nat) (en : Int) (Ae : Option Addr) (ce : Nat) (E : List (Int × Int × Int)) (Ab : Option Addr) (cb : Nat) (B : List (Int × Nat)) (hn : n ≤ 1000000000000) (hE : EffsIn w Ae E) (hB : BanksIn w Ab B) (hok : cartOk n E B = false) :
    Calls Tryd.prog 12 #[.agg #[.slice A n c, .int .u16 en, .slice Ae E.length ce, .slice Ab B.length cb]] w fun e w' => RWordsPost w (.error (74, 0)) e w' := by
  have start := Lib.hid (show Below w.heap.size w (World.alloc w (.cells #[.slice A n c, .int .u16 en, .slice Ae E.length ce, .slice Ab B.length cb] 27)) from b_alloc (Below.refl _ _) _)
  have CK := Lib.hid (rcheck_any _ A n c (.int .u16 en) Ae ce E Ab cb B hn (hE.below start.out) (hB.below start.out))
  have HOK := Lib.hid hok
  clear hE hB hok
  go_enter Tryd.func12, Tryd.ntmps12
  go_wp2_with (fail)
  refine CK.out.mono ?_
  rintro e W1 ⟨rfl, hb⟩
  have hb1 := Lib.hid (b_then start.out hb)
  rw [HOK.out]
  clear hb
  go_wp2_with (fail)
  refine bodyPost_ret (v := .tuple #[.slice none 0 0, .int .i64 74, .int .u16 0]) (by simp [results, Tryd.results12, go_sem]) rfl ⟨hb1.out, rfl⟩

set_option maxRecDepth 100000 in
set_option maxHeartbeats 8000000 in
theorem rwords_good (w : World) (A : Option Addr) (c : Nat) (code : List Int) (en : Int) (Ae : Option Addr) (ce : Nat) (E : List (Int × Int × Int)) (Ab : Option Addr) (cb : Nat) (B : List (Int × Nat)) (h : CodeIn w A code) (hE : EffsIn w Ae E) (hB : BanksIn w Ab B) (h0 : 0 ≤ en) (h1 : en < 65536)
    (kw k : Nat) (R : Except (Int × Int) (List FW)) (hok : cartOk code.length E B = true) (hr : wsl code kw k [en] [] [] [] = some R) :
    Calls Tryd.prog 12 #[.agg #[.slice A code.length c, .int .u16 en, .slice Ae E.length ce, .slice Ab B.length cb]] w fun e w' => RWordsPost w (sortR R) e w' := by
  have hl : code.length ≤ 16384 := by
    unfold cartOk at hok
    simp at hok
    omega
  obtain ⟨cart, hcart⟩ : ∃ cart, cart = (#[.slice A code.length c, .int .u16 en, .slice Ae E.length ce, .slice Ab B.length cb] : Array Value) := ⟨_, rfl⟩
  have HCART := Lib.hid hcart
  have start := Lib.hid (show Below w.heap.size w (World.alloc w (.cells #[.slice A code.length c, .int .u16 en, .slice Ae E.length ce, .slice Ab B.length cb] 27)) from b_alloc (Below.refl _ _) _)
  have r9 := Lib.hid (show (World.alloc w (.cells #[.slice A code.length c, .int .u16 en, .slice Ae E.length ce, .slice Ab B.length cb] 27)).heap[w.heap.size]? = some (.cells cart 27 (0, 0)) from by rw [hcart]; exact heap_alloc_at _ _)
  have CK := Lib.hid (rcheck_any _ A code.length c (.int .u16 en) Ae ce E Ab cb B (by omega) (hE.below start.out) (hB.below start.out))
  have HOK := Lib.hid hok
  have HC := Lib.hid h
  have HR := Lib.hid hr
  have HB := Lib.hid h.byte
  clear hE hB hok h hr hcart
  go_enter Tryd.func12, Tryd.ntmps12
  go_wp2_with (fail)
  refine CK.out.mono ?_
  rintro e W1 ⟨rfl, hb⟩
  have r2 := Lib.hid ((hb.block _ (heap_lt r9.out)).trans r9.out)
  have hb1 := Lib.hid (b_then start.out hb)
  have b1 : W1.cell? ⟨w.heap.size, 1, none⟩ = some (.int .u16 en) := by rw [cell_of r2.out, HCART.out]; rfl
  rw [HOK.out]
  clear hb CK
  have START : Hid (RWd w (W1.alloc (.cells #[.int .u16 en] 23)) cart (.slice (some ⟨W1.heap.size, 0, none⟩) 1 1) (.slice none 0 0) (.slice none 0 0) [en] [] [] []) := by
    have hs := heap_lt r2.out
    refine ⟨b_alloc hb1.out _, heap_alloc_old r2.out, ⟨rfl, .inr ⟨W1.heap.size, 1, #[.int .u16 en], rfl, hs, heap_alloc_at _ _, Nat.le_refl _, by simp [maxLen], rfl, rfl⟩⟩, RowU.nil _ _, World.ownsRow_nil _ _ _ _, trivial, ?_⟩
    show ([W1.heap.size] ++ ([] ++ ([] ++ []))).Nodup
    simp
  have SI : Hid (SInv code [en] [] [] []) := SInv.start code en ⟨h0, h1⟩
  go_wp2_with (fail)
  clear r9 start
  go_loopg [6, 7, 8] k (fun kq vx vd vo W => ∃ (o seen T : List Int) (ts : List WT) (acc : List FW), Hid (wsl code kw kq o seen T acc = some R) ∧ Hid (SInv code o seen T acc) ∧ Hid (RWd w W cart vo vd vx o seen ts acc))
  case atStart => exact ⟨_, _, _, _, _, HR, SI, START⟩
  case round =>
    clear START SI HR r2 hb1 b1
    obtain ⟨o, seen, T, ts, acc, HL, HI, HS⟩ := hrel
    cases gk with
    | zero => exact absurd HL.out (by simp [wsl])
    | succ k1 =>
      cases o with
      | nil =>
        have hre : R = .ok acc := by
          have := HL.out
          unfold wsl at this
          exact (Option.some.inj this).symm
        subst hre
        obtain ⟨Ao, co, hvo⟩ := HS.out.ro.slice
        have hvo : u8 = .slice Ao 0 co := hvo
        subst hvo
        obtain ⟨n, hn⟩ : ∃ n, n = ts.length := ⟨_, rfl⟩
        obtain ⟨Ax, cx, hvx⟩ := HS.out.rx.slice
        rw [← hn] at hvx
        subst hvx
        have HN := Lib.hid hn
        have hn2 : n ≤ 16384 := by
          have e1 := HS.out.reps.len
          have e2 := HI.out.lens
          omega
        have AP : Hid (∀ k ∈ blks ts, some k ≠ (Value.slice Ax n cx).ownBlock) := fun k hk => nd_ne (List.nodup_append.1 (List.nodup_append.1 HS.out.apart).2.1).2.1 hk
        clear hn HL
        obtain ⟨W0, hW0⟩ : ∃ V, V = wr := ⟨_, rfl⟩
        subst hW0
        go_wp2_with (fail)
        go_loopw [14] (fun iv wx => ∃ (j : Nat) (l : List WT), 1 ≤ j ∧ j ≤ n + 1 ∧ iv = .int .i64 (j : Int) ∧ Hid (RowX wx (w.heap.size + 1) (.slice Ax n cx) l ∧ l.Perm ts ∧ (l.take j).Pairwise (fun a b => a.at_.val ≤ b.at_.val) ∧ Upd W0 wx (fun k => some k = (Value.slice Ax n cx).ownBlock))) (fun iv _ => n + 1 - (intOf iv).toNat)
        case atStart => exact ⟨1, ts, Nat.le_refl _, by omega, rfl, Lib.hid ⟨HS.out.rx, List.Perm.refl _, by cases ts <;> simp, Upd.refl _ _⟩⟩
        case round =>
          obtain ⟨j, l, hj1, hj2, rfl, HL2⟩ := hrel
          have hll : l.length = n := HL2.out.2.1.length_eq.trans HN.out.symm
          by_cases hlt : j < n
          · obtain ⟨P, hP⟩ : ∃ P, P = l.take j := ⟨_, rfl⟩
            obtain ⟨x, hx⟩ : ∃ x, x = l[j]'(by omega) := ⟨_, rfl⟩
            obtain ⟨r, hr⟩ : ∃ r, r = l.drop (j + 1) := ⟨_, rfl⟩
            have hPl : P.length = j := by rw [hP, List.length_take]; omega
            have hsp : midL P x j ++ r = l := by
              rw [← hPl, midL_end, hP, hx, hr]
              rw [List.getElem_cons_drop, List.take_append_drop]
            have PM : Hid (∀ k, (midL P x k ++ r).Perm ts) := fun k => by
              have e1 : (midL P x k ++ r).Perm (midL P x j ++ r) := ((midL_perm P x k).trans (midL_perm P x j).symm).append_right r
              rw [hsp] at e1
              exact e1.trans HL2.out.2.1
            have PS : Hid (P.Pairwise (fun a b => a.at_.val ≤ b.at_.val)) := by rw [hP]; exact HL2.out.2.2.1
            have PL := Lib.hid hPl
            have RL : Hid (r.length + (j + 1) = n) := by show _ = _; rw [hr, List.length_drop]; omega
            have ST2 : Hid (RowX wr (w.heap.size + 1) (.slice Ax n cx) (midL P x j ++ r) ∧ Upd W0 wr (fun k => some k = (Value.slice Ax n cx).ownBlock)) := by
              show _ ∧ _
              rw [hsp]
              exact ⟨HL2.out.1, HL2.out.2.2.2⟩
            have hjn : (j : Int) < (n : Int) := by omega
            clear HL2 hP hx hr hsp hll hPl
            go_wp2_with (fail)
            go_loopw [15] (fun iv wx => ∃ k : Nat, k ≤ j ∧ iv = .int .i64 (k : Int) ∧ Hid (RowX wx (w.heap.size + 1) (.slice Ax n cx) (midL P x k ++ r) ∧ Upd W0 wx (fun k => some k = (Value.slice Ax n cx).ownBlock) ∧ ∀ (m : Nat) (hm : m < P.length), k ≤ m → x.at_.val ≤ (P[m]).at_.val)) (fun iv _ => (intOf iv).toNat)
            case atStart => exact ⟨j, Nat.le_refl _, rfl, Lib.hid ⟨ST2.out.1, ST2.out.2, fun m hm h => by have := PL.out; omega⟩⟩
            case round =>
              clear ST2
              obtain ⟨k, hk, rfl, H3⟩ := hrel
              have FINK : Hid ((∀ (m : Nat) (hm : m < P.length), m + 1 = k → (P[m]).at_.val ≤ x.at_.val) → ∀ nq, ∃ l', Hid (RowX (wr.drewN nq) (w.heap.size + 1) (.slice Ax n cx) l' ∧ l'.Perm ts ∧ (l'.take (j + 1)).Pairwise (fun a b => a.at_.val ≤ b.at_.val) ∧ Upd W0 (wr.drewN nq) (fun k => some k = (Value.slice Ax n cx).ownBlock))) := fun hlo nq => by
                have hkP : k ≤ P.length := by rw [PL.out]; exact hk
                refine ⟨midL P x k ++ r, H3.out.1.below (b_drewN (Below.refl _ _) nq), PM.out k, ?_, u_drewN H3.out.2.1 nq⟩
                rw [List.take_append_of_le_length (by rw [midL_len P x k hkP, PL.out]; exact Nat.le_refl _), List.take_of_length_le (by rw [midL_len P x k hkP, PL.out]; exact Nat.le_refl _)]
                exact midL_rise hkP PS.out H3.out.2.2 hlo
              by_cases hk0 : k = 0
              · subst hk0
                have F := Lib.hid (FINK.out (fun m hm h => by omega))
                clear FINK H3
                go_wp2_with (fail)
                go_quiet (fail)
                go_wp2_with (fail)
                go_roundw
                case rel =>
                  obtain ⟨l', h⟩ := F.out nq
                  exact ⟨j + 1, l', by omega, by omega, by go_num, h⟩
                case measure => first | (simp [intOf]; done) | (simp [intOf]; omega)
              · obtain ⟨i, rfl⟩ : ∃ i, k = i + 1 := ⟨k - 1, by omega⟩
                have hil : i + 1 ≤ P.length := by rw [PL.out]; exact hk
                have hlen : (midL P x (i + 1) ++ r).length = n := by rw [List.length_append, midL_len P x _ hil, PL.out]; have := RL.out; omega
                obtain ⟨g, rfl, c0, c1, c2⟩ := H3.out.1.at_ (i := i) (by omega)
                obtain ⟨_, e1, d0, d1, d2⟩ := H3.out.1.at_ (i := i + 1) (by omega)
                cases e1
                rw [midL_pre hil] at c0 c1 c2
                rw [midL_at hil] at d0 d1 d2
                obtain ⟨y, hy⟩ : ∃ y, y = P[i]'(by omega) := ⟨_, rfl⟩
                rw [← hy] at c0 c1 c2
                have HY := Lib.hid hy
                clear hy
                have c1 : wr.cell? ⟨g, i * 3 + 1, none⟩ = some (.slice y.ia y.il y.ic) := c1
                have c2 : wr.cell? ⟨g, i * 3 + 2, none⟩ = some (.slice y.ca y.cl y.cc) := c2
                have d1 : wr.cell? ⟨g, (i + 1) * 3 + 1, none⟩ = some (.slice x.ia x.il x.ic) := d1
                have d2 : wr.cell? ⟨g, (i + 1) * 3 + 2, none⟩ = some (.slice x.ca x.cl x.cc) := d2
                have FR := Lib.hid H3.out.1.free
                obtain ⟨xv, hxv⟩ : ∃ v, v = (x.at_.val : Int) := ⟨_, rfl⟩
                obtain ⟨yv, hyv⟩ : ∃ v, v = (y.at_.val : Int) := ⟨_, rfl⟩
                rw [← hyv] at c0
                rw [← hxv] at d0
                have XV := Lib.hid hxv
                have YV := Lib.hid hyv
                clear hxv hyv
                have z0 : (0 : Int) < (i : Int) + 1 := by omega
                have z1 : (i : Int) + 1 < (n : Int) := by omega
                have z3 : (i : Int) < (n : Int) := by omega
                have z2 : IntKind.i64.wrap ((i : Int) + 1 - 1) = (i : Int) := by simp [IntKind.wrap, IntKind.bits, IntKind.signed]; omega
                clear hlen
                by_cases hyx : xv < yv
                · have dyx : decide (xv < yv) = true := by simpa using hyx
                  have RV0 : Hid (∀ nq, RowX (wr.drewN nq) (w.heap.size + 1) (.slice (some ⟨g, 0, none⟩) n cx) (midL P x (i + 1) ++ r) ∧ Upd W0 (wr.drewN nq) (fun k => some k = (Value.slice (some ⟨g, 0, none⟩) n cx).ownBlock)) := fun nq => ⟨H3.out.1.below (b_drewN (Below.refl _ _) nq), u_drewN H3.out.2.1 nq⟩
                  have LO : Hid (∀ (m : Nat) (hm : m < P.length), i ≤ m → x.at_.val ≤ (P[m]).at_.val) := fun m hm hle => by
                    by_cases e : m = i
                    · subst e; rw [← HY.out]; have := XV.out; have := YV.out; omega
                    · exact H3.out.2.2 m hm (by omega)
                  clear FINK H3 hyx
                  go_wp2_with (fail)
                  go_quiet (fail)
                  obtain ⟨V, hV⟩ : ∃ V, V = wr.drewN nq := ⟨_, rfl⟩
                  have RV1 := Lib.hid (RV0.out nq)
                  have c0 : V.cell? ⟨g, i * 3, none⟩ = some (.int .u16 yv) := by rw [hV]; exact c0
                  have c1 : V.cell? ⟨g, i * 3 + 1, none⟩ = some (.slice y.ia y.il y.ic) := by rw [hV]; exact c1
                  have c2 : V.cell? ⟨g, i * 3 + 2, none⟩ = some (.slice y.ca y.cl y.cc) := by rw [hV]; exact c2
                  have d0 : V.cell? ⟨g, (i + 1) * 3, none⟩ = some (.int .u16 xv) := by rw [hV]; exact d0
                  have d1 : V.cell? ⟨g, (i + 1) * 3 + 1, none⟩ = some (.slice x.ia x.il x.ic) := by rw [hV]; exact d1
                  have d2 : V.cell? ⟨g, (i + 1) * 3 + 2, none⟩ = some (.slice x.ca x.cl x.cc) := by rw [hV]; exact d2
                  have F0 : V.frozen? ⟨g, i * 3, none⟩ = false := by rw [hV]; exact FR.out _
                  have F1 : V.frozen? ⟨g, i * 3 + 1, none⟩ = false := by rw [hV]; exact FR.out _
                  have F2 : V.frozen? ⟨g, i * 3 + 2, none⟩ = false := by rw [hV]; exact FR.out _
                  have F3 : V.frozen? ⟨g, (i + 1) * 3, none⟩ = false := by rw [hV]; exact FR.out _
                  have F4 : V.frozen? ⟨g, (i + 1) * 3 + 1, none⟩ = false := by rw [hV]; exact FR.out _
                  have F5 : V.frozen? ⟨g, (i + 1) * 3 + 2, none⟩ = false := by rw [hV]; exact FR.out _
                  rw [← hV] at RV1 ⊢
                  have SW2 : Hid (RowX (World.setCell (World.setCell (World.setCell (World.setCell (World.setCell (World.setCell V ⟨g, i * 3, none⟩ (.int .u16 xv)) ⟨g, i * 3 + 1, none⟩ (.slice x.ia x.il x.ic)) ⟨g, i * 3 + 2, none⟩ (.slice x.ca x.cl x.cc)) ⟨g, (i + 1) * 3, none⟩ (.int .u16 yv)) ⟨g, (i + 1) * 3 + 1, none⟩ (.slice y.ia y.il y.ic)) ⟨g, (i + 1) * 3 + 2, none⟩ (.slice y.ca y.cl y.cc)) (w.heap.size + 1) (.slice (some ⟨g, 0, none⟩) n cx) (midL P x i ++ r) ∧ Upd W0 (World.setCell (World.setCell (World.setCell (World.setCell (World.setCell (World.setCell V ⟨g, i * 3, none⟩ (.int .u16 xv)) ⟨g, i * 3 + 1, none⟩ (.slice x.ia x.il x.ic)) ⟨g, i * 3 + 2, none⟩ (.slice x.ca x.cl x.cc)) ⟨g, (i + 1) * 3, none⟩ (.int .u16 yv)) ⟨g, (i + 1) * 3 + 1, none⟩ (.slice y.ia y.il y.ic)) ⟨g, (i + 1) * 3 + 2, none⟩ (.slice y.ca y.cl y.cc)) (fun k => some k = (Value.slice (some ⟨g, 0, none⟩) n cx).ownBlock)) := own_swapX (x := x) (y := y) (W1 := V) XV.out YV.out RV1.out.1 (.inl rfl) hil HY.out RV1.out.2
                  clear RV0 RV1 hV FR
                  go_wp2_with (fail)
                  go_region
                  obtain ⟨V2, hV2⟩ : ∃ V2, V2 = World.setCell (World.setCell (World.setCell (World.setCell (World.setCell (World.setCell V ⟨g, i * 3, none⟩ (.int .u16 xv)) ⟨g, i * 3 + 1, none⟩ (.slice x.ia x.il x.ic)) ⟨g, i * 3 + 2, none⟩ (.slice x.ca x.cl x.cc)) ⟨g, (i + 1) * 3, none⟩ (.int .u16 yv)) ⟨g, (i + 1) * 3 + 1, none⟩ (.slice y.ia y.il y.ic)) ⟨g, (i + 1) * 3 + 2, none⟩ (.slice y.ca y.cl y.cc) := ⟨_, rfl⟩
                  rw [← hV2] at SW2 ⊢
                  clear hV2 c0 c1 c2 d0 d1 d2 F0 F1 F2 F3 F4 F5
                  have SW3 : Hid (RowX V2.drew (w.heap.size + 1) (.slice (some ⟨g, 0, none⟩) n cx) (midL P x i ++ r) ∧ Upd W0 V2.drew (fun k => some k = (Value.slice (some ⟨g, 0, none⟩) n cx).ownBlock)) := ⟨SW2.out.1, SW2.out.2.drew⟩
                  go_wp2_with (fail)
                  go_roundw
                  case rel => exact ⟨i, by omega, by go_num, Lib.hid ⟨SW3.out.1, SW3.out.2, LO.out⟩⟩
                  case measure => first | (simp [intOf]; done) | (simp [intOf]; omega)
                · have dyx : decide (xv < yv) = false := by simpa using hyx
                  have F := Lib.hid (FINK.out (fun m hm h => by
                    have e : m = i := by omega
                    subst e
                    rw [← HY.out]
                    have := XV.out
                    have := YV.out
                    omega))
                  clear FINK H3 hyx
                  go_wp2_with (fail)
                  go_quiet (fail)
                  go_wp2_with (fail)
                  go_roundw
                  case rel =>
                    obtain ⟨l', h⟩ := F.out nq
                    exact ⟨j + 1, l', by omega, by omega, by go_num, h⟩
                  case measure => first | (simp [intOf]; done) | (simp [intOf]; omega)
          · have hjn : ¬ (j : Int) < (n : Int) := by omega
            have FIN : Hid (RWordsPost w (.ok (sortFW acc)) (.returned (.tuple #[.slice Ax n cx, .int .i64 0, .int .u16 0])) wr) := by
              obtain ⟨q1, q2, q3, q4⟩ := HL2.out
              rw [List.take_of_length_le (by omega)] at q3
              have hu : Upd W0 wr (fun k => some k = (Value.slice Ax n cx).ownBlock) := q4
              refine ⟨HS.out.below.trans (hu.below HS.out.below.size (fun k hk => by have := (HS.out.rx.own k hk.symm).2; omega)), _, l, rfl, ownsRow_lower q1 (by omega), ?_⟩
              exact JReps.lower (by omega) (jreps_sorted HS.out.reps HI.out.nd q2 q3 AP.out hu)
            clear HL2
            go_wp2_with (fail)
            exact bodyPost_ret (v := .tuple #[.slice Ax n cx, .int .i64 0, .int .u16 0]) (by simp [results, Tryd.results12, go_sem]) rfl FIN.out
      | cons a o' =>
        obtain ⟨Ao, co, hvo⟩ := HS.out.ro.slice
        have hal := HI.out.orange a List.mem_cons_self
        have holen : (a :: o').length = o'.length + 1 := rfl
        obtain ⟨no, hno⟩ : ∃ n, n = o'.length := ⟨_, rfl⟩
        have HNO := Lib.hid hno
        rw [holen, ← hno] at hvo
        subst hvo
        obtain ⟨go, rfl, c0⟩ := HS.out.ro.at_ (i := 0) (by simp)
        have c0 : wr.cell? ⟨go, 0, none⟩ = some (.int .u16 a) := c0
        have hnol : no ≤ 65536 := by
          have := rise_len (a :: o') 0 65536 HI.out.os HI.out.orange
          simp only [List.length_cons] at this
          omega
        clear hno holen
        have RO := Lib.hid (show wr.ownsRow (w.heap.size + 1) 23 1 (.slice (some ⟨go, 0, none⟩) (no + 1) co) (no + 1) ((a :: o').map (Value.int .u16)) by have := HS.out.ro; unfold RowU at this; rw [show (a :: o').length = no + 1 by rw [HNO.out]; rfl] at this; exact this)
        have hcap : no + 1 ≤ co := (ownsRow_some RO.out).2.2
        have hbs : w.heap.size + 1 ≤ wr.heap.size := heap_lt HS.out.box
        have OWN : Hid ((wr.alloc (.cells #[] 23)).ownsRow (w.heap.size + 1) 23 1 (.slice (some ⟨wr.heap.size, 0, none⟩) 0 0) 0 []) := ⟨rfl, .inr ⟨wr.heap.size, 0, #[], rfl, hbs, heap_alloc_at _ _, Nat.le_refl _, by simp [maxLen], rfl, rfl⟩⟩
        have bal := Lib.hid (b_alloc (Below.refl wr.heap.size wr) (.cells #[] 23))
        have NEWS : Hid (∀ ad, (if co = 1 then some (⟨go, 0, none⟩ : Addr) else some ⟨go, 1, none⟩) = some ad → ∀ j u, (o'.map (Value.int .u16))[j]? = some u → (wr.alloc (.cells #[] 23)).cell? (ad.add j) = some u) := fun ad e j u hj => by
          have hjl : j < o'.length := by simpa using (List.getElem?_eq_some_iff.1 hj).1
          by_cases hc1 : co = 1
          · have := HNO.out; omega
          · rw [if_neg hc1] at e
            cases e
            have h2 := RO.out.cells (g := go) rfl (j + 1) u (by rw [List.map_cons, List.getElem?_cons_succ]; exact hj)
            rw [add0] at h2
            rw [show (⟨go, 1, none⟩ : Addr).add j = ⟨go, j + 1, none⟩ by unfold Addr.add; simp [Nat.add_comm]]
            exact keep_cell h2 bal.out
        have NIL : Hid ((if co = 1 then some (⟨go, 0, none⟩ : Addr) else some ⟨go, 1, none⟩) = none → co - 1 = 0 ∧ no = 0) := fun e => by split at e <;> cases e
        have ONE : Hid (∀ u ∈ o'.map (Value.int .u16), u.oneCell' = true) := fun u hu => by
          obtain ⟨y, _, rfl⟩ := List.mem_map.1 hu
          rfl
        have LEN : Hid ((o'.map (Value.int .u16)).length = no * 1) := by show _ = _; rw [List.length_map, HNO.out, Nat.mul_one]
        have FIN : Hid (∀ (g cap : Nat) (W2 : World), W2.ownsRow (w.heap.size + 1) 23 1 (.slice (some ⟨g, 0, none⟩) no cap) no ([] ++ o'.map (Value.int .u16)) → Upd (wr.alloc (.cells #[] 23)) W2 (fun k => k = wr.heap.size) → (g = wr.heap.size ∨ g = (wr.alloc (.cells #[] 23)).heap.size) → RWd w W2 cart (.slice (some ⟨g, 0, none⟩) no cap) u7 u6 o' seen ts acc) := fun g cap W2 ho hu hat => by
          refine HS.out.setO ⟨hu.os.trans rfl, hu.tape.trans rfl, hu.output.trans rfl, by have := hu.size; simp at this; omega, fun b hb _ => (hu.block b (by simp; omega) (by omega)).trans (Below.heap_alloc _ _ _ hb)⟩ ?_ (.inr ⟨g, rfl, ?_⟩)
          · unfold RowU
            rw [← HNO.out]
            exact ho
          · rcases hat with h | h
            · omega
            · simp at h; omega
        have n1 : (0 : Int) < (no : Int) + 1 := by omega
        have n2 : (1 : Int) ≤ (no : Int) + 1 := by omega
        obtain ⟨i0, hi0, hz0, hz1, hz2⟩ := info_parts infoU16
        go_upto_region 9 with fail
        go_cut [8] from 24 to 75 (fun vn wx => ∃ g cap, vn = .slice (some ⟨g, 0, none⟩) no cap ∧ Hid (RWd w wx cart vn u7 u6 o' seen ts acc))
        case first =>
          go_wp2_with (first
            | (at_builtin; refine wpList_append_any rfl _ _ 51 rfl (w.heap.size + 1) 23 i0 _ 1 2 Tryd.underlying51 hi0 hz0 hz1 hz2 rfl (by decide) wr.heap.size 0 0 [] rfl OWN.out (if co = 1 then some ⟨go, 0, none⟩ else some ⟨go, 1, none⟩) no (co - 1) (o'.map (Value.int .u16)) rfl NIL.out LEN.out NEWS.out ONE.out (by simp only [maxLen]; omega) (by omega) (by simp; omega) no (by omega) ?_; intro g cap W2 ho hu hat; have S2 := Lib.hid (FIN.out g cap W2 ho hu hat); clear ho hu hat))
          all_goals
            go_meet
            exact ⟨_, _, rfl, S2⟩
        case rest =>
          obtain ⟨g, cap, rfl, S2⟩ := hcut
          clear RO OWN bal NEWS NIL ONE LEN FIN HS c0
          have SLEN : Hid (seen.length ≤ code.length) := by show _ ≤ _; have e1 := HI.out.len; have e2 := HI.out.lens; omega
          have WD : Hid (Calls Tryd.prog 37 #[u7, .int .u16 a] wc fun e w' => WithPost wc (w.heap.size + 1) u7 seen a e w') := rwith_any wc (w.heap.size + 1) u7 seen a S2.out.rd HI.out.ss (by have := SLEN.out; omega) (heap_lt S2.out.box)
          go_wp2_with (fail)
          refine WD.out.mono ?_
          rintro e W3 ⟨vd, rfl, rd3, u3, n3⟩
          have S3 := Lib.hid (S2.out.setD u3 rd3 n3)
          clear rd3 u3 n3 WD S2
          obtain ⟨Ad, cd, hvd⟩ := S3.out.rd.slice
          obtain ⟨nd, hnd⟩ : ∃ n, n = (ins a seen).length := ⟨_, rfl⟩
          rw [← hnd] at hvd
          subst hvd
          have HND := Lib.hid hnd
          have hnd2 : nd ≤ 16385 := by
            rw [hnd]
            have := ins_len_le a seen
            have := SLEN.out
            omega
          have q0 : W3.cell? ⟨w.heap.size, 0, none⟩ = some (.slice A code.length c) := by rw [cell_of S3.out.box, HCART.out]; rfl
          obtain ⟨nx, hnx⟩ : ∃ n, n = ts.length := ⟨_, rfl⟩
          have HNX := Lib.hid hnx
          obtain ⟨Ax, cx, hvx⟩ := S3.out.rx.slice
          rw [← hnx] at hvx
          subst hvx
          have HXA : Hid (nx = acc.length) := hnx.trans S3.out.reps.len
          have hnx2 : nx ≤ 16384 := by
            rw [HXA.out]
            have := HI.out.lens
            omega
          clear hnx hnd
          obtain ⟨r, hr⟩ : ∃ r, wordOf kw code T a = some r := by
            have := HL.out
            unfold wsl at this
            cases hw : wordOf kw code T a with
            | none => rw [hw] at this; cases this
            | some r => exact ⟨r, rfl⟩
          have HW := Lib.hid hr
          have WO : Hid (Calls Tryd.prog 38 #[.slice A code.length c, .int .u16 a, .slice Ax nx cx] W3 fun e w' => RWPost W3 r e w') := by
            have h1 : wordOf kw code (takenOf acc) a = some r := by unfold takenOf; rw [← HI.out.taken]; exact hr
            have h2 : FWin W3 Ax acc := jreps_fwin S3.out.rx S3.out.reps (fun x hx => by
              obtain ⟨o1, o2⟩ := HI.out.ok x hx
              have := o1.inv.lens
              exact ⟨o2, by omega, by omega⟩)
            have h3 := rword_any W3 A c code a Ax cx acc (HC.out.below S3.out.below) hal.1 hal.2 h2 (fun x hx => (HI.out.ok x hx).1.inv.fs) hl (by have := HI.out.lens; omega) kw r h1
            rw [← HXA.out] at h3
            exact h3
          clear hr
          go_wp2_with (fail)
          refine WO.out.mono ?_
          rintro e W4 ⟨b4, hr4⟩
          have S4 := Lib.hid (S3.out.bel b4)
          cases r with
          | error ez =>
            obtain ⟨z, za⟩ := ez
            have hre : R = .error (z, za) := by
              have := HL.out
              unfold wsl at this
              rw [HW.out] at this
              exact (Option.some.inj this).symm
            subst hre
            have hz : (z != 0) = true := by simp; exact wordOf_err HW.out
            have hr4 : e = .returned (.tuple #[.agg #[.int .u16 0, .slice none 0 0, .slice none 0 0], .int .i64 z, .int .u16 za]) := hr4
            subst hr4
            clear b4 WO S3 q0
            go_wp2_with (fail)
            refine bodyPost_ret (v := .tuple #[.slice none 0 0, .int .i64 z, .int .u16 za]) (by simp [results, Tryd.results12, go_sem]) rfl ⟨b_alloc S4.out.below _, rfl⟩
          | ok x =>
            obtain ⟨vi, vc, he, ri, rc, ap⟩ := hr4
            have NEXT : Hid (wsl code kw k1 (x.calls.foldl (pushW (ins a seen)) o') (ins a seen) (T ++ x.instrs.map FI.at_) (acc ++ [x]) = some R) := by
              have := HL.out
              unfold wsl at this
              rw [HW.out] at this
              exact this
            have XOK := Lib.hid (wordOf_ok HB.out HW.out)
            have lx := Lib.hid XOK.out.1.inv.lens
            obtain ⟨t, t1, rfl, rfl, cp, tn, td⟩ : ∃ t : WT, t.at_.val = a.toNat ∧ vi = t.vi ∧ vc = t.vc ∧ CpW W4 (w.heap.size + 1) t x ∧ (∀ k ∈ t.blks, W3.heap.size ≤ k) ∧ t.blks.Nodup := by
              have sz := heap_lt S3.out.box
              obtain ⟨ia, ic, rfl⟩ := ownsRow_slice ri
              obtain ⟨ca, cc, rfl⟩ := rc.slice
              refine ⟨⟨⟨a.toNat, by omega⟩, ia, x.instrs.length, ic, ca, x.calls.length, cc⟩, rfl, rfl, rfl, ⟨by show ((a.toNat : Nat) : Int) = x.at_; rw [XOK.out.2]; omega, rfl, rfl, ownsRow_lower ri (by omega), RowU.lower rc (by omega)⟩, fun k hk => ?_, ?_⟩
              · rcases List.mem_append.1 hk with hk | hk
                · exact (ownsRow_own ri k (Option.mem_toList.1 hk)).2
                · exact (ownsRow_own rc k (Option.mem_toList.1 hk)).2
              · unfold WT.blks
                rw [List.nodup_append]
                refine ⟨?_, ?_, ?_⟩
                · cases (WT.vi _).ownBlock <;> simp
                · cases (WT.vc _).ownBlock <;> simp
                · intro p hp q hq e
                  subst e
                  exact ap p (Option.mem_toList.1 hp) (Option.mem_toList.1 hq)
            obtain ⟨ta, ia, il, ic, ca, cl, cc⟩ := t
            have he : e = .returned (.tuple #[.agg #[.int .u16 a, .slice ia il ic, .slice ca cl cc], .int .i64 0, .int .u16 0]) := by rw [he, XOK.out.2]; rfl
            subst he
            have CP := Lib.hid cp
            have TN : Hid (∀ k ∈ WT.blks ⟨ta, ia, il, ic, ca, cl, cc⟩, k ∉ (Value.slice (some ⟨g, 0, none⟩) no cap).ownBlock.toList ++ ((Value.slice Ad nd cd).ownBlock.toList ++ ((Value.slice Ax nx cx).ownBlock.toList ++ blks ts))) := fun k hk hk' => by
              have := (S3.out.mem hk').1
              have := tn k hk
              omega
            have TD := Lib.hid td
            have TA := Lib.hid t1
            have TI : Hid (il = x.instrs.length) := cp.il
            have TC : Hid (cl = x.calls.length) := cp.cl
            clear b4 WO S3 q0 ri rc ap tn td t1 cp
            go_upto_region 14 with fail
            obtain ⟨V4, hV4⟩ : ∃ V, V = W4.alloc (.cells #[.int .u16 a, .slice ia il ic, .slice ca cl cc] 76) := ⟨_, rfl⟩
            obtain ⟨X, hX⟩ : ∃ x, x = W4.heap.size := ⟨_, rfl⟩
            have b5 : Below W4.heap.size W4 V4 := by rw [hV4]; exact b_alloc (Below.refl _ _) _
            have S5 := Lib.hid (S4.out.bel b5)
            have CP5 := Lib.hid (CP.out.move (W := V4) (fun k hk => b5.block k (CP.out.lt k hk).1))
            have X5 : Hid (V4.heap[X]? = some (.cells #[.int .u16 a, .slice ia il ic, .slice ca cl cc] 76 (0, 0))) := by show _ = _; rw [hV4, hX]; exact heap_alloc_at _ _
            have LX : Hid (∀ k, k ∈ (Value.slice (some ⟨g, 0, none⟩) no cap).ownBlock.toList ++ ((Value.slice Ad nd cd).ownBlock.toList ++ ((Value.slice Ax nx cx).ownBlock.toList ++ blks ts)) → k ≠ X) := fun k hk => by
              have := (S4.out.mem hk).1
              omega
            have XB : Hid (w.heap.size ≠ X) := fun e => by have := heap_lt S4.out.box; omega
            rw [← hV4, ← hX]
            clear b5 hV4 hX S4 CP he
            obtain ⟨⟨p0, p1, p2⟩, z0, z1, z2⟩ := cells3 X5.out
            obtain ⟨i1, hi1, hy0, hy1, hy2⟩ := info_parts infoX
            have hvs : w.heap.size + 1 ≤ V4.heap.size := heap_lt S5.out.box
            have RX := Lib.hid (show (V4.alloc (.cells #[.int .u16 a, .slice ia il ic, .slice ca cl cc] 76)).ownsRow (w.heap.size + 1) 76 3 (.slice Ax nx cx) nx (ts.flatMap WT.cells) by
              have := S5.out.rx
              unfold RowX at this
              rw [← HNX.out] at this
              exact this.alloc _)
            have FIN : Hid (∀ (g4 cap4 : Nat) (W6 : World), W6.ownsRow (w.heap.size + 1) 76 3 (.slice (some ⟨g4, 0, none⟩) (nx + 1) cap4) (nx + 1) (ts.flatMap WT.cells ++ [.int .u16 a, .slice ia il ic, .slice ca cl cc]) → (V4.alloc (.cells #[.int .u16 a, .slice ia il ic, .slice ca cl cc] 76)).grownBy W6 (Value.slice Ax nx cx).ownBlock →
                ((Value.slice (some ⟨g4, 0, none⟩) (nx + 1) cap4).ownBlock = (Value.slice Ax nx cx).ownBlock ∨ (Value.slice (some ⟨g4, 0, none⟩) (nx + 1) cap4).ownBlock = some (V4.alloc (.cells #[.int .u16 a, .slice ia il ic, .slice ca cl cc] 76)).heap.size) →
                RWd w W6 cart (.slice (some ⟨g, 0, none⟩) no cap) (.slice Ad nd cd) (.slice (some ⟨g4, 0, none⟩) (nx + 1) cap4) o' (ins a seen) (ts ++ [⟨ta, ia, il, ic, ca, cl, cc⟩]) (acc ++ [x]) ∧
                Hid (W6.heap[X]? = some (.cells #[.int .u16 a, .slice ia il ic, .slice ca cl cc] 76 (0, 0)))) := fun g4 cap4 W6 ho hg hat => by
              have e : (WT.cells ⟨ta, ia, il, ic, ca, cl, cc⟩) = [.int .u16 a, .slice ia il ic, .slice ca cl cc] := by
                have ea : (ta.val : Int) = a := by have e1 : ta.val = a.toNat := TA.out; omega
                show [Value.int .u16 (ta.val : Int), .slice ia il ic, .slice ca cl cc] = _
                rw [ea]
              refine ⟨S5.out.add HNX.out CP5.out TN.out TD.out hg (by rw [e]; exact ho) (new_block1 hat), ?_⟩
              have hX := heap_lt X5.out
              show _ = _
              rw [hg.block X (by simp; omega) (fun e => LX.out X (by simp [e]) rfl), Below.heap_alloc _ _ _ hX]
              exact X5.out
            go_wp2_with (first
              | (at_builtin; refine wpList_append_own_at _ rfl _ _ 36 rfl (w.heap.size + 1) 76 i1 _ 3 56 Tryd.underlying36 hi1 hy0 hy1 hy2 rfl (by decide) (.slice Ax nx cx) nx _ rfl RX.out ⟨V4.heap.size, 0, none⟩ 1 1 [.int .u16 a, .slice ia il ic, .slice ca cl cc] rfl rfl ?hnews ?hone (by simp only [maxLen]; omega) (by omega) (by simp; omega) ?_; (case hnews => exact news3 _ (heap_alloc_at _ _)); (case hone => intro u hu; simp at hu; rcases hu with rfl | rfl | rfl <;> rfl); intro v' W6 ho hgr _ hat; obtain ⟨g4, cap4, rfl⟩ := ownsRow_succ ho; obtain ⟨s6, X6⟩ := FIN.out g4 cap4 W6 ho hgr hat; have S6 := Lib.hid s6; clear ho hgr hat s6))
            clear S5 CP5 X5 RX FIN p0 p1 p2 z0 z1 z2
            have mb : cl ≤ 16384 := by
              have e1 := TC.out
              have e2 := lx.out.2
              omega
            have HAL : Hid (ts.length = acc.length) := HNX.out.symm.trans HXA.out
            have SRT : Hid (o'.Pairwise (fun a b => a < b)) := (List.pairwise_cons.1 HI.out.os).2
            go_loopw [8, 13] (fun vo iv wr => ∃ (j : Nat) (o1 : List Int), j ≤ cl ∧ iv = .int .i64 (j : Int) ∧ Hid (o1 = (x.calls.take j).foldl (pushW (ins a seen)) o') ∧ Hid (RWd w wr cart vo (.slice Ad nd cd) (.slice (some ⟨g4, 0, none⟩) (nx + 1) cap4) o1 (ins a seen) (ts ++ [⟨ta, ia, il, ic, ca, cl, cc⟩]) (acc ++ [x])) ∧ Hid (wr.heap[X]? = some (.cells #[.int .u16 a, .slice ia il ic, .slice ca cl cc] 76 (0, 0)) ∧ ∀ k, vo.ownBlock = some k → k ≠ X)) (fun _ iv _ => cl - (intOf iv).toNat)
            case atStart => exact ⟨0, o', Nat.zero_le _, rfl, Lib.hid rfl, S6, Lib.hid ⟨X6.out, fun k hk => LX.out k (by simp [hk])⟩⟩
            case round =>
              clear S6 X6
              obtain ⟨j, o1, hj, rfl, HO, S7, X7⟩ := hrel
              obtain ⟨⟨p0, p1, p2⟩, z0, z1, z2⟩ := cells3 X7.out.1
              by_cases hlt : j < cl
              · have hjx : j < x.calls.length := by rw [← TC.out]; exact hlt
                have RC : RowU wr (w.heap.size + 1) (.slice ca cl cc) x.calls := (S7.out.reps.last HAL.out).calls
                obtain ⟨gc, rfl, cC⟩ := RowU.at_ (A := ca) (n := cl) (c := cc) RC hjx
                obtain ⟨d, hd⟩ : ∃ d, d = x.calls[j] := ⟨_, rfl⟩
                rw [← hd] at cC
                have HO2 : Hid ((x.calls.take (j + 1)).foldl (pushW (ins a seen)) o' = pushW (ins a seen) o1 d) := by
                  show _ = _
                  rw [← List.take_append_getElem hjx, List.foldl_append, ← HO.out, hd]
                  rfl
                clear hd RC
                have hjn : (j : Int) < (cl : Int) := by omega
                have HH : Hid (Calls Tryd.prog 39 #[.slice Ad nd cd, .int .u16 d] wr fun e w' => e = .returned (.bool (decide (d ∈ ins a seen))) ∧ w' = wr) := rhas_any wr Ad nd cd (ins a seen) d HND.out (by
                  have h1 := S7.out.rd
                  rw [HND.out] at h1
                  exact RowU.atsIn h1 (by have := HND.out; omega))
                by_cases hin : d ∈ ins a seen
                · have di : decide (d ∈ ins a seen) = true := decide_eq_true hin
                  rw [di] at HH
                  have HP : Hid (o1 = (x.calls.take (j + 1)).foldl (pushW (ins a seen)) o') := by
                    show _ = _
                    rw [HO2.out]
                    unfold pushW
                    rw [if_pos hin]
                  clear hin di
                  go_wp2_with (fail)
                  refine HH.out.mono ?_
                  rintro e w' ⟨rfl, hwe⟩
                  subst hwe
                  go_wp2_with (fail)
                  go_roundw
                  case rel => exact ⟨j + 1, o1, hlt, by go_num, HP, S7, X7⟩
                  case measure => first | (simp [intOf]; done) | (simp [intOf]; omega)
                · have di : decide (d ∈ ins a seen) = false := decide_eq_false hin
                  rw [di] at HH
                  have HP : Hid (ins d o1 = (x.calls.take (j + 1)).foldl (pushW (ins a seen)) o') := by
                    show _ = _
                    rw [HO2.out]
                    unfold pushW
                    rw [if_neg hin]
                  clear hin di
                  have WI : Hid (Calls Tryd.prog 37 #[u8, .int .u16 d] wr fun e w' => WithPost wr (w.heap.size + 1) u8 o1 d e w') := by
                    refine rwith_any wr (w.heap.size + 1) u8 o1 d S7.out.ro ?_ ?_ (heap_lt S7.out.box)
                    · rw [HO.out]; exact pushW_sorted _ _ _ SRT.out
                    · have h1 := pushW_len_le (ins a seen) (x.calls.take j) o'
                      have h2 := HNO.out
                      rw [← HO.out] at h1
                      rw [List.length_take] at h1
                      omega
                  go_wp2_with (fail)
                  refine HH.out.mono ?_
                  rintro e w' ⟨rfl, hwe⟩
                  subst hwe
                  go_wp2_with (fail)
                  refine WI.out.mono ?_
                  rintro e W8 ⟨v', rfl, r9, u9, n9⟩
                  have S8 := Lib.hid (S7.out.setO u9 r9 n9)
                  have X8 : Hid (W8.heap[X]? = some (.cells #[.int .u16 a, .slice ia il ic, .slice (some ⟨gc, 0, none⟩) cl cc] 76 (0, 0)) ∧ ∀ k, v'.ownBlock = some k → k ≠ X) := by
                    have hX := heap_lt X7.out.1
                    refine ⟨u9.keep X7.out.1 (fun e => X7.out.2 X e.symm rfl), fun k hk e => ?_⟩
                    rcases n9 with h | ⟨b, h, hb⟩
                    · exact X7.out.2 k (by rw [← h]; exact hk) e
                    · rw [h] at hk
                      have := Option.some.inj hk
                      omega
                  clear WI r9 u9 n9 S7 X7 HH
                  go_wp2_with (fail)
                  go_roundw
                  case rel => exact ⟨j + 1, ins d o1, hlt, by go_num, HP, S8, X8⟩
                  case measure => first | (simp [intOf]; done) | (simp [intOf]; omega)
              · have e : j = cl := by omega
                subst e
                have HO3 : o1 = x.calls.foldl (pushW (ins a seen)) o' := by
                  rw [HO.out, TC.out, List.take_length]
                have NX : Hid (wsl code kw k1 o1 (ins a seen) (T ++ x.instrs.map FI.at_) (acc ++ [x]) = some R) := by
                  rw [HO3]; exact NEXT.out
                have SN : Hid (SInv code o1 (ins a seen) (T ++ x.instrs.map FI.at_) (acc ++ [x])) := by
                  rw [HO3]; exact HI.out.next XOK.out.1 XOK.out.2
                have hjn : ¬ (j : Int) < (j : Int) := by omega
                clear HO3 HO HL NEXT
                go_wp2_with (fail)
                go_roundg k1
                case rel => exact ⟨_, _, _, _, _, NX, SN, S7⟩
                case measure => omega

theorem rwords_any (w : World) (A : Option Addr) (c : Nat) (code : List Int) (en : Int) (Ae : Option Addr) (ce : Nat) (E : List (Int × Int × Int)) (Ab : Option Addr) (cb : Nat) (B : List (Int × Nat)) (h : CodeIn w A code) (hE : EffsIn w Ae E) (hB : BanksIn w Ab B) (h0 : 0 ≤ en) (h1 : en < 65536)
    (kw k : Nat) (r : Except (Int × Int) (List FW)) (hr : wordsFull kw k code en E B = some r) :
    Calls Tryd.prog 12 #[.agg #[.slice A code.length c, .int .u16 en, .slice Ae E.length ce, .slice Ab B.length cb]] w fun e w' => RWordsPost w r e w' := by
  unfold wordsFull at hr
  by_cases hok : cartOk code.length E B = true
  · rw [if_pos hok] at hr
    unfold wordsOf at hr
    cases hw : wsl code kw k [en] [] [] [] with
    | none => rw [hw] at hr; cases hr
    | some R =>
      rw [hw] at hr
      cases hr
      exact rwords_good w A c code en Ae ce E Ab cb B h hE hB h0 h1 kw k R hok hw
  · rw [if_neg hok] at hr
    cases hr
    exact rwords_bad w A code.length c en Ae ce E Ab cb B h.len hE hB (by simpa using hok)
end Go.Proofs.YtabeljpnmmfpgaaDoor

namespace Go.Proofs.YtabeljpnmmfpgaaDoor
open Go.RowKit Go.MapKept Go.Maps Go.Sort
set_option linter.unusedVariables false
set_option linter.unusedSimpArgs false

/-- The string of bytes. -/
def bstr (l : List Int) : ByteArray := l.foldl (fun r n => r.push (UInt8.ofNat n.toNat)) ByteArray.empty
theorem run_conv_code {P : Program} {w : World} {A : Option Addr} {c n : Nat} {l : List Int} {src dst e : TypeId} (hs : P.underlying src = some (.slice e)) (he : P.underlying e = some (.int .u8)) (hd : P.underlying dst = some .string) (h : CodeIn w A l) (hn : n = l.length) :
    (convert src dst (.slice A n c)).run P w = .ok (.string (bstr l)) w := by
  subst hn
  rw [run_convert_bytes_string w src dst e A l.length c hs he hd]
  cases A with
  | none =>
    have : l = [] := by
      cases l with
      | nil => rfl
      | cons x r => obtain ⟨_, h3, _⟩ := h.at_ 0 (by simp); cases h3
    subst this
    rfl
  | some ad =>
    refine run_bytesToString w ad l.length c l ?_
    have := run_loadCells_list (P := P) (w := w) ad (l.map (Value.int .u8)) (fun j u hj => by
      rw [List.getElem?_map] at hj
      obtain ⟨x, hx, rfl⟩ := Option.map_eq_some_iff.1 hj
      obtain ⟨hjl, hjx⟩ := List.getElem?_eq_some_iff.1 hx
      obtain ⟨ad2, e2, hc⟩ := h.at_ j hjl
      cases e2
      rw [List.getD_eq_getElem?_getD, hx] at hc
      exact hc)
    simpa using this
theorem codeIn_of_row {w : World} {base g n cap : Nat} {code ms : List Int} (h : w.ownsRow base 5 1 (.slice (some ⟨g, 0, none⟩) n cap) n ((code ++ ms).map (Value.int .u8))) (hb : ∀ j, 0 ≤ code.getD j 0 ∧ code.getD j 0 < 256) (hl : code.length ≤ 1000000000000) : CodeIn w (some ⟨g, 0, none⟩) code := by
  refine ⟨hb, hl, fun j hj => ⟨_, rfl, ?_⟩⟩
  refine h.cells (g := g) rfl j _ ?_
  rw [List.getElem?_map, List.getElem?_append_left hj, List.getElem?_eq_getElem hj, List.getD_eq_getElem?_getD, List.getElem?_eq_getElem hj]
  rfl

set_option maxRecDepth 100000 in
set_option maxHeartbeats 4000000 in
theorem wholeCode_any (w : World) (A : Option Addr) (n c base g cap : Nat) (code : List Int) (en en2 : Int) (Ae : Option Addr) (ne ce : Nat) (Ab : Option Addr) (nb cb : Nat) (Ce : Option Addr) (me de : Nat) (Cb : Option Addr) (mb db : Nat) (h : CodeIn w A code) (hn : n = code.length) (hl : n ≤ 2000000)
    (hr : w.ownsRow base 5 1 (.slice (some ⟨g, 0, none⟩) (n + 2) cap) (n + 2) ((code ++ [77, 78]).map (Value.int .u8))) :
    Calls Tryd.prog 15 #[.agg #[.slice (some ⟨g, 0, none⟩) n cap, .int .u16 en, .slice Ae ne ce, .slice Ab nb cb], .agg #[.slice A n c, .int .u16 en2, .slice Ce me de, .slice Cb mb db]] w fun e w' => e = .returned (.bool true) ∧ Below w.heap.size w w' := by
  obtain ⟨q1, q2, q3⟩ := ownsRow_some hr
  have CI := codeIn_of_row hr h.byte h.len
  have B0 : Below w.heap.size w (World.alloc (World.alloc w (.cells #[.slice (some ⟨g, 0, none⟩) n cap, .int .u16 en, .slice Ae ne ce, .slice Ab nb cb] 27)) (.cells #[.slice A n c, .int .u16 en2, .slice Ce me de, .slice Cb mb db] 27)) := b_alloc (b_alloc (Below.refl _ _) _) _
  have v0 := run_conv_code (c := cap) Tryd.underlying22 Tryd.underlying5 Tryd.underlying9 (CI.below B0) hn
  have v1 := run_conv_code (c := c) Tryd.underlying22 Tryd.underlying5 Tryd.underlying9 (h.below B0) hn
  have m0 : (World.alloc (World.alloc w (.cells #[.slice (some ⟨g, 0, none⟩) n cap, .int .u16 en, .slice Ae ne ce, .slice Ab nb cb] 27)) (.cells #[.slice A n c, .int .u16 en2, .slice Ce me de, .slice Cb mb db] 27)).cell? ⟨g, n, none⟩ = some (.int .u8 77) := by
    have := hr.cells (g := g) rfl n (.int .u8 77) (by rw [List.map_append, List.getElem?_append_right (by simp [hn])]; simp [hn])
    rw [add0] at this
    exact keep_cell this B0
  have m1 : (World.alloc (World.alloc w (.cells #[.slice (some ⟨g, 0, none⟩) n cap, .int .u16 en, .slice Ae ne ce, .slice Ab nb cb] 27)) (.cells #[.slice A n c, .int .u16 en2, .slice Ce me de, .slice Cb mb db] 27)).cell? ⟨g, n + 1, none⟩ = some (.int .u8 78) := by
    have := hr.cells (g := g) rfl (n + 1) (.int .u8 78) (by rw [List.map_append, List.getElem?_append_right (by simp [hn])]; simp [hn])
    rw [add0] at this
    exact keep_cell this B0
  have BB := Lib.hid B0
  have z0 : (0 : Int) ≤ (n : Int) + 2 := by omega
  have z1 : (n : Int) + 2 ≤ (cap : Int) := by omega
  have z2 : (n : Int) < (n : Int) + 2 := by omega
  have z3 : (n : Int) + 1 < (n : Int) + 2 := by omega
  have z4 : (n : Int) ≤ 2000000 := by omega
  obtain ⟨S, hS⟩ : ∃ s, s = bstr code := ⟨_, rfl⟩
  rw [← hS] at v0 v1
  clear hS CI B0 h hn hr q1 q2 q3
  go_enter Tryd.func15, Tryd.ntmps15
  go_wp2_with (fail)
  go_ret
  exact ⟨rfl, BB.out⟩
end Go.Proofs.YtabeljpnmmfpgaaDoor
