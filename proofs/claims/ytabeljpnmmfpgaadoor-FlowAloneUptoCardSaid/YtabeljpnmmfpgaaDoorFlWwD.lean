/-
  The law's book: what note does to it.
  FlowWords: what its walk is told by.
-/
import Derived.Deep.AppendLies
import Derived.Deep.Cut
import Derived.Test.YtabeljpnmmfpgaaDoorFlRwG
import Derived.Test.YtabeljpnmmfpgaaDoorFlApart
namespace Go.Proofs.YtabeljpnmmfpgaaDoor
open Go.RowKit Go.MapKept Go.Maps Go.Sort
set_option linter.unusedVariables false
set_option linter.unusedSimpArgs false

/-- The book while it is written: three rows of rows of its own. -/
structure BkSt (W : World) (X : Nat) (vI vC vW : List Value) (rI rC rW : Value) : Prop where
  box : W.heap[X]? = some (.cells #[rW, rI, rC] 47 (0, 0))
  kI : W.ownsRow (X + 1) 50 1 rI vI.length vI
  kC : W.ownsRow (X + 1) 51 1 rC vC.length vC
  kW : W.ownsRow (X + 1) 30 1 rW vW.length vW
  ap : (rI.ownBlock.toList ++ (rC.ownBlock.toList ++ rW.ownBlock.toList)).Nodup
section
variable {W w4 : World} {X n g cap : Nat} {vI vC vW : List Value} {rI rC rW u : Value} {ob : Obj}
theorem BkSt.far (h : BkSt W X vI vC vW rI rC rW) (k : Nat) (hk : rI.ownBlock = some k ∨ rC.ownBlock = some k ∨ rW.ownBlock = some k) : X + 1 ≤ k ∧ k < W.heap.size := by
  rcases hk with hk | hk | hk
  · exact ⟨(ownsRow_own h.kI k hk).2, (ownsRow_own h.kI k hk).1⟩
  · exact ⟨(ownsRow_own h.kC k hk).2, (ownsRow_own h.kC k hk).1⟩
  · exact ⟨(ownsRow_own h.kW k hk).2, (ownsRow_own h.kW k hk).1⟩
/-- What an append leaves: the block that grew, and all else. -/
structure Gr (W w4 : World) (own : Option Nat) (g : Nat) : Prop where
  upd : Upd W w4 (fun k => some k = own)
  at_ : some g = own ∨ W.heap.size ≤ g
theorem Gr.mk' {own : Option Nat} (hg : ((W.alloc ob).drew).grownBy w4 own) (hat : own = some g ∨ g = ((W.alloc ob).drew).heap.size) : Gr W w4 own g := by
  refine ⟨(((Upd.refl W _).alloc _).drew).trans (Upd.of_grown hg) (fun i _ h => h), ?_⟩
  rcases hat with h | h
  · exact .inl h.symm
  · exact .inr (by rw [h]; show W.heap.size ≤ (W.alloc ob).heap.size; simp)
theorem Gr.mk2 {own : Option Nat} (hg : (W.alloc ob).grownBy w4 own) (hat : some g = own ∨ W.heap.size ≤ g) : Gr W w4 own g :=
  ⟨((Upd.refl W _).alloc _).trans (Upd.of_grown hg) (fun i _ h => h), hat⟩
theorem Gr.own {own : Option Nat} (h : Gr W w4 own g) : some g = own ∨ ∃ b, some g = some b ∧ W.heap.size ≤ b := h.at_.imp id (fun e => ⟨g, rfl, e⟩)
theorem BkSt.putI (h : BkSt W X vI vC vW rI rC rW) (hr : w4.ownsRow (X + 1) 50 1 (.slice (some ⟨g, 0, none⟩) (n + 1) cap) (n + 1) (vI ++ [u])) (hn : n = vI.length) (hg : Gr W w4 rI.ownBlock g) :
    BkSt (w4.setCell ⟨X, 1, none⟩ (.slice (some ⟨g, 0, none⟩) (n + 1) cap)) X (vI ++ [u]) vC vW (.slice (some ⟨g, 0, none⟩) (n + 1) cap) rC rW ∧ Upd W (w4.setCell ⟨X, 1, none⟩ (.slice (some ⟨g, 0, none⟩) (n + 1) cap)) (fun k => X ≤ k) ∧ w4.heap[X]? = some (.cells #[rW, rI, rC] 47 (0, 0)) := by
  have hX := heap_lt h.box
  have bx := (hg.upd.block X hX (fun e => by have := (h.far X (.inl e.symm)).1; omega)).trans h.box
  have kp : ∀ k, k ∈ rC.ownBlock.toList ++ rW.ownBlock.toList → (w4.setCell ⟨X, 1, none⟩ (.slice (some ⟨g, 0, none⟩) (n + 1) cap)).heap[k]? = W.heap[k]? := fun k hk => by
    have q : X + 1 ≤ k ∧ k < W.heap.size := by
      rcases List.mem_append.1 hk with hk | hk
      · exact h.far k (.inr (.inl (by simpa using hk)))
      · exact h.far k (.inr (.inr (by simpa using hk)))
    rw [heap_set_far (by omega)]
    exact hg.upd.block k q.2 (nd_ne h.ap hk)
  have e1 : (vI ++ [u]).length = n + 1 := by simp [hn]
  refine ⟨⟨heap_set_cell bx 1 _, ?_, ownsRow_keep h.kC (fun k hk => kp k (by simp [hk])), ownsRow_keep h.kW (fun k hk => kp k (by simp [hk])), ?_⟩, (hg.upd.mono (fun i _ e => by have := (h.far i (.inl e.symm)).1; omega)).setCell (fun _ => Nat.le_refl X) _, bx⟩
  · rw [e1]
    refine ownsRow_keep hr (fun k hk => ?_)
    have : g = k := by simpa [Value.ownBlock] using hk
    subst this
    exact heap_set_far (by have := (ownsRow_some hr).1; omega)
  · exact nd_put h.ap (fun k hk => by
      rcases List.mem_append.1 hk with hk | hk
      · exact (h.far k (.inr (.inl (by simpa using hk)))).2
      · exact (h.far k (.inr (.inr (by simpa using hk)))).2) hg.own
theorem BkSt.putC (h : BkSt W X vI vC vW rI rC rW) (hr : w4.ownsRow (X + 1) 51 1 (.slice (some ⟨g, 0, none⟩) (n + 1) cap) (n + 1) (vC ++ [u])) (hn : n = vC.length) (hg : Gr W w4 rC.ownBlock g) :
    BkSt (w4.setCell ⟨X, 2, none⟩ (.slice (some ⟨g, 0, none⟩) (n + 1) cap)) X vI (vC ++ [u]) vW rI (.slice (some ⟨g, 0, none⟩) (n + 1) cap) rW ∧ Upd W (w4.setCell ⟨X, 2, none⟩ (.slice (some ⟨g, 0, none⟩) (n + 1) cap)) (fun k => X ≤ k) ∧ w4.heap[X]? = some (.cells #[rW, rI, rC] 47 (0, 0)) := by
  have hX := heap_lt h.box
  have ap := (perm3 _ _ _).nodup_iff.1 h.ap
  have bx := (hg.upd.block X hX (fun e => by have := (h.far X (.inr (.inl e.symm))).1; omega)).trans h.box
  have kp : ∀ k, k ∈ rI.ownBlock.toList ++ rW.ownBlock.toList → (w4.setCell ⟨X, 2, none⟩ (.slice (some ⟨g, 0, none⟩) (n + 1) cap)).heap[k]? = W.heap[k]? := fun k hk => by
    have q : X + 1 ≤ k ∧ k < W.heap.size := by
      rcases List.mem_append.1 hk with hk | hk
      · exact h.far k (.inl (by simpa using hk))
      · exact h.far k (.inr (.inr (by simpa using hk)))
    rw [heap_set_far (by omega)]
    exact hg.upd.block k q.2 (nd_ne ap hk)
  have e1 : (vC ++ [u]).length = n + 1 := by simp [hn]
  refine ⟨⟨heap_set_cell bx 2 _, ownsRow_keep h.kI (fun k hk => kp k (by simp [hk])), ?_, ownsRow_keep h.kW (fun k hk => kp k (by simp [hk])), ?_⟩, (hg.upd.mono (fun i _ e => by have := (h.far i (.inr (.inl e.symm))).1; omega)).setCell (fun _ => Nat.le_refl X) _, bx⟩
  · rw [e1]
    refine ownsRow_keep hr (fun k hk => ?_)
    have : g = k := by simpa [Value.ownBlock] using hk
    subst this
    exact heap_set_far (by have := (ownsRow_some hr).1; omega)
  · exact (perm3 _ _ _).nodup_iff.1 (nd_put ap (fun k hk => by
      rcases List.mem_append.1 hk with hk | hk
      · exact (h.far k (.inl (by simpa using hk))).2
      · exact (h.far k (.inr (.inr (by simpa using hk)))).2) hg.own)
theorem BkSt.putW (h : BkSt W X vI vC vW rI rC rW) (hr : w4.ownsRow (X + 1) 30 1 (.slice (some ⟨g, 0, none⟩) (n + 1) cap) (n + 1) (vW ++ [u])) (hn : n = vW.length) (hg : Gr W w4 rW.ownBlock g) :
    BkSt (w4.setCell ⟨X, 0, none⟩ (.slice (some ⟨g, 0, none⟩) (n + 1) cap)) X vI vC (vW ++ [u]) rI rC (.slice (some ⟨g, 0, none⟩) (n + 1) cap) ∧ Upd W (w4.setCell ⟨X, 0, none⟩ (.slice (some ⟨g, 0, none⟩) (n + 1) cap)) (fun k => X ≤ k) ∧ w4.heap[X]? = some (.cells #[rW, rI, rC] 47 (0, 0)) := by
  have hX := heap_lt h.box
  have pm : (rI.ownBlock.toList ++ (rC.ownBlock.toList ++ rW.ownBlock.toList)).Perm (rW.ownBlock.toList ++ (rI.ownBlock.toList ++ rC.ownBlock.toList)) := by
    rw [← List.append_assoc]
    exact List.perm_append_comm
  have ap := pm.nodup_iff.1 h.ap
  have bx := (hg.upd.block X hX (fun e => by have := (h.far X (.inr (.inr e.symm))).1; omega)).trans h.box
  have kp : ∀ k, k ∈ rI.ownBlock.toList ++ rC.ownBlock.toList → (w4.setCell ⟨X, 0, none⟩ (.slice (some ⟨g, 0, none⟩) (n + 1) cap)).heap[k]? = W.heap[k]? := fun k hk => by
    have q : X + 1 ≤ k ∧ k < W.heap.size := by
      rcases List.mem_append.1 hk with hk | hk
      · exact h.far k (.inl (by simpa using hk))
      · exact h.far k (.inr (.inl (by simpa using hk)))
    rw [heap_set_far (by omega)]
    exact hg.upd.block k q.2 (nd_ne ap hk)
  have e1 : (vW ++ [u]).length = n + 1 := by simp [hn]
  refine ⟨⟨heap_set_cell bx 0 _, ownsRow_keep h.kI (fun k hk => kp k (by simp [hk])), ownsRow_keep h.kC (fun k hk => kp k (by simp [hk])), ?_, ?_⟩, (hg.upd.mono (fun i _ e => by have := (h.far i (.inr (.inr e.symm))).1; omega)).setCell (fun _ => Nat.le_refl X) _, bx⟩
  · rw [e1]
    refine ownsRow_keep hr (fun k hk => ?_)
    have : g = k := by simpa [Value.ownBlock] using hk
    subst this
    exact heap_set_far (by have := (ownsRow_some hr).1; omega)
  · have q := nd_put ap (a' := some g) (fun k hk => by
      rcases List.mem_append.1 hk with hk | hk
      · exact (h.far k (.inl (by simpa using hk))).2
      · exact (h.far k (.inr (.inl (by simpa using hk)))).2) hg.own
    have e : (rI.ownBlock.toList ++ (rC.ownBlock.toList ++ (some g).toList)).Perm ((some g).toList ++ (rI.ownBlock.toList ++ rC.ownBlock.toList)) := by
      rw [← List.append_assoc]
      exact List.perm_append_comm
    exact e.nodup_iff.2 q
end
set_option maxRecDepth 100000 in
set_option maxHeartbeats 8000000 in
theorem note_any (w : World) (X : Nat) (vI vC vW : List Value) (rI rC rW : Value) (hS : BkSt w X vI vC vW rI rC rW) (A : Option Addr) (n c base : Nat) (ts : List WT) (hn : n = ts.length) (hr : RowW w base (.slice A n c) ts) (hX : ∀ k, (Value.slice A n c).ownBlock = some k → k < X) (hl : n ≤ 20000) (h1 : vI.length ≤ 100000) (h2 : vC.length ≤ 100000) (h3 : vW.length ≤ 100000) :
    Calls Tryd.prog 16 #[.pointer (some ⟨X, 0, none⟩), .slice A n c] w fun e w' => e = .returned (.tuple #[]) ∧ (∃ rI' rC' rW', BkSt w' X (vI ++ ts.map WT.vi) (vC ++ ts.map WT.vc) (vW ++ [.slice A n c]) rI' rC' rW') ∧ Upd w w' (fun k => X ≤ k) := by
  obtain ⟨i0, hi0, hx0, hx1, hx2⟩ := info_parts infoLW
  obtain ⟨i1, hi1, hy0, hy1, hy2⟩ := info_parts infoLI
  obtain ⟨i2, hi2, hz0, hz1, hz2⟩ := info_parts infoLC
  obtain ⟨Aw, cw, hvw⟩ := ownsRow_slice hS.kW
  obtain ⟨nw, hnw⟩ : ∃ m, m = vW.length := ⟨_, rfl⟩
  rw [← hnw] at hvw h3
  subst hvw
  have HS := Lib.hid hS
  have HN := Lib.hid hn
  have HR := Lib.hid hr
  have HX := Lib.hid hX
  have HNW := Lib.hid hnw
  obtain ⟨⟨p0, p1, p2⟩, z0, z1, z2⟩ := cells3 HS.out.box
  have RW0 := Lib.hid (show (w.alloc (.cells #[.slice A n c] 30)).ownsRow (X + 1) 30 1 (.slice Aw nw cw) nw vW by
    have := HS.out.kW
    rw [← HNW.out] at this
    exact this.alloc _)
  have hXl := heap_lt HS.out.box
  have FIN0 : Hid (∀ (g4 cap4 : Nat) (w4 : World), w4.ownsRow (X + 1) 30 1 (.slice (some ⟨g4, 0, none⟩) (nw + 1) cap4) (nw + 1) (vW ++ [.slice A n c]) → (w.alloc (.cells #[.slice A n c] 30)).grownBy w4 (Value.slice Aw nw cw).ownBlock →
      ((Value.slice (some ⟨g4, 0, none⟩) (nw + 1) cap4).ownBlock = (Value.slice Aw nw cw).ownBlock ∨ (Value.slice (some ⟨g4, 0, none⟩) (nw + 1) cap4).ownBlock = some (w.alloc (.cells #[.slice A n c] 30)).heap.size) →
      BkSt (w4.setCell ⟨X, 0, none⟩ (.slice (some ⟨g4, 0, none⟩) (nw + 1) cap4)) X vI vC (vW ++ [.slice A n c]) rI rC (.slice (some ⟨g4, 0, none⟩) (nw + 1) cap4) ∧ Upd w (w4.setCell ⟨X, 0, none⟩ (.slice (some ⟨g4, 0, none⟩) (nw + 1) cap4)) (fun k => X ≤ k) ∧ w4.heap[X]? = some (.cells #[.slice Aw nw cw, rI, rC] 47 (0, 0))) := fun g4 cap4 w4 ho hg hat =>
    HS.out.putW ho HNW.out (Gr.mk2 hg (new_block1 hat))
  clear hS hn hr hX hnw
  go_enter Tryd.func16, Tryd.ntmps16
  go_wp2_with (first
    | (at_builtin; refine wpList_append_own_at _ rfl _ _ 43 rfl (X + 1) 30 i0 _ 1 24 Tryd.underlying43 hi0 hx0 hx1 hx2 rfl (by decide) (.slice Aw nw cw) nw _ rfl RW0.out ⟨w.heap.size, 0, none⟩ 1 1 [.slice A n c] rfl rfl ?hnews ?hone (by simp only [maxLen]; omega) (by omega) (by simp; omega) ?_; (case hnews => exact news1 _ (heap_alloc_at _ _)); (case hone => intro u hu; simp at hu; rcases hu with rfl; rfl); intro v' w4 ho hgr _ hat; obtain ⟨g4, cap4, rfl⟩ := ownsRow_succ ho; obtain ⟨f1, f2, f3⟩ := FIN0.out g4 cap4 w4 ho hgr hat; have S1 := Lib.hid f1; have U1 := Lib.hid f2; have F3 := Lib.hid f3; clear ho hgr hat f1 f2 f3 FIN0; obtain ⟨⟨q0, q1, q2⟩, y0, y1, y2⟩ := cells3 F3.out))
  obtain ⟨V, hV⟩ : ∃ V, V = w4.setCell ⟨X, 0, none⟩ (.slice (some ⟨g4, 0, none⟩) (nw + 1) cap4) := ⟨_, rfl⟩
  rw [← hV] at S1 U1 ⊢
  clear hV p0 p1 p2 z0 z1 z2 q0 q1 q2 y0 y1 y2 F3 RW0
  obtain ⟨vw, hvw⟩ : ∃ v, v = Value.slice (some ⟨g4, 0, none⟩) (nw + 1) cap4 := ⟨_, rfl⟩
  obtain ⟨lw, hlw⟩ : ∃ l, l = vW ++ [.slice A n c] := ⟨_, rfl⟩
  have HLW := Lib.hid hlw
  have HVW := Lib.hid hvw
  rw [← hvw, ← hlw] at S1
  have RL : Hid (∀ W, Upd w W (fun k => X ≤ k) → RowW W base (.slice A n c) ts) := fun W hW => HR.out.move (fun k hk => hW.block k (HR.out.own k hk).1 (by have := HX.out k hk; omega))
  clear hvw hlw
  go_loopw [4] (fun iv wr => ∃ (k : Nat) (rI rC : Value), k ≤ n ∧ iv = .int .i64 (k : Int) ∧ Hid (BkSt wr X (vI ++ (ts.take k).map WT.vi) (vC ++ (ts.take k).map WT.vc) lw rI rC vw) ∧ Hid (Upd w wr (fun k => X ≤ k))) (fun iv _ => n - (intOf iv).toNat)
  case atStart => exact ⟨0, rI, rC, Nat.zero_le _, rfl, by simpa using S1, U1⟩
  case round =>
    clear S1 U1
    obtain ⟨k, aI, aC, hk, rfl, S2, U2⟩ := hrel
    by_cases hlt : k < n
    · have hkt : k < ts.length := by rw [← HN.out]; exact hlt
      have RT := RL.out wr U2.out
      obtain ⟨gl, rfl, c0, c1, c2⟩ := RT.at_ hkt
      obtain ⟨t, ht⟩ : ∃ t, t = ts[k] := ⟨_, rfl⟩
      rw [← ht] at c0 c1 c2
      have TK : Hid (ts.take (k + 1) = ts.take k ++ [t]) := by show _ = _; rw [ht, List.take_append_getElem]
      replace c1 : wr.cell? ⟨gl, k * 3 + 1, none⟩ = some (.slice t.ia t.il t.ic) := c1
      replace c2 : wr.cell? ⟨gl, k * 3 + 2, none⟩ = some (.slice t.ca t.cl t.cc) := c2
      have hkn : (k : Int) < (n : Int) := by omega
      have hglX : gl < X := HX.out gl rfl
      clear RT ht
      obtain ⟨AI, cI, hvi⟩ := ownsRow_slice S2.out.kI
      obtain ⟨nI, hnI⟩ : ∃ m, m = (vI ++ (ts.take k).map WT.vi).length := ⟨_, rfl⟩
      rw [← hnI] at hvi
      subst hvi
      have HNI := Lib.hid hnI
      have hnI2 : nI ≤ 200000 := by rw [hnI]; simp; omega
      clear hnI
      obtain ⟨⟨p0, p1, p2⟩, z0, z1, z2⟩ := cells3 S2.out.box
      have NW : Hid (∀ j u, ([.slice t.ia t.il t.ic] : List Value)[j]? = some u → ((wr.alloc (.cells #[.slice t.ia t.il t.ic] 50)).drew).cell? ((⟨wr.heap.size, 0, none⟩ : Addr).add j) = some u) := news1 (wr.alloc _) (heap_alloc_at _ _)
      have RA : Hid (((wr.alloc (.cells #[.slice t.ia t.il t.ic] 50)).drew).ownsRow (X + 1) 50 1 (.slice AI nI cI) nI (vI ++ (ts.take k).map WT.vi)) := by
        have := S2.out.kI
        rw [← HNI.out] at this
        exact this.alloc _
      have hXl2 := heap_lt S2.out.box
      have AF : Hid (∀ (g5 cap5 : Nat) (w5 : World), w5.ownsRow (X + 1) 50 1 (.slice (some ⟨g5, 0, none⟩) (nI + 1) cap5) (nI + 1) ((vI ++ (ts.take k).map WT.vi) ++ [.slice t.ia t.il t.ic]) →
          ((wr.alloc (.cells #[.slice t.ia t.il t.ic] 50)).drew).grownBy w5 (Value.slice AI nI cI).ownBlock → ((Value.slice AI nI cI).ownBlock = some g5 ∨ g5 = ((wr.alloc (.cells #[.slice t.ia t.il t.ic] 50)).drew).heap.size) →
          Hid (BkSt (w5.setCell ⟨X, 1, none⟩ (.slice (some ⟨g5, 0, none⟩) (nI + 1) cap5)) X (vI ++ (ts.take (k + 1)).map WT.vi) (vC ++ (ts.take k).map WT.vc) lw (.slice (some ⟨g5, 0, none⟩) (nI + 1) cap5) aC vw) ∧ Hid (Upd w (w5.setCell ⟨X, 1, none⟩ (.slice (some ⟨g5, 0, none⟩) (nI + 1) cap5)) (fun k => X ≤ k)) ∧ w5.heap[X]? = some (.cells #[vw, .slice AI nI cI, aC] 47 (0, 0))) := fun g5 cap5 w5 ho hg hat => by
        obtain ⟨f1, f2, f3⟩ := S2.out.putI ho HNI.out (Gr.mk' hg hat)
        refine ⟨?_, U2.out.trans f2 (fun i _ h => h), f3⟩
        rw [TK.out, List.map_append, ← List.append_assoc]
        exact f1
      go_wp2_with (fail)
      go_cut [] from 15 to 48 (fun wx => ∃ bI : Value, Hid (BkSt wx X (vI ++ (ts.take (k + 1)).map WT.vi) (vC ++ (ts.take k).map WT.vc) lw bI aC vw) ∧ Hid (Upd w wx (fun k => X ≤ k)))
      case first =>
        go_region_law (refine step_append_lies _ rfl (.tmp 25) (.tmp 31) 44 rfl (X + 1) 50 i1 _ 1 24 Tryd.underlying44 hi1 hy0 hy1 hy2 rfl (by decide) (.slice AI nI cI) nI _ (by first | rfl | simp [Act.eval, Act.put]) RA.out ⟨wr.heap.size, 0, none⟩ 1 1 [.slice t.ia t.il t.ic] (by first | rfl | simp [Act.eval, Act.put]) rfl NW.out (by simp [Value.oneCell']) (by decide) (by simp only [maxLen]; omega) (by omega) (by simp; omega) _ rfl ?_; intro g5 cap5 w5 ho hgr hat hlt'; obtain ⟨S5, U5, bx⟩ := AF.out g5 cap5 w5 ho hgr hat; obtain ⟨⟨t0, t1, t2⟩, s0, s1, s2⟩ := cells3 bx; clear bx ho hgr hat hlt')
        all_goals
          go_wp2_with (fail)
          go_meet
          exact ⟨_, S5, U5⟩
      case rest =>
        obtain ⟨bI, S3, U3⟩ := hcut
        clear S2 U2 NW RA AF p0 p1 p2 z0 z1 z2 c0 c1 c2
        obtain ⟨wq, hwq⟩ : ∃ x, x = wc := ⟨_, rfl⟩
        subst hwq
        obtain ⟨_, e2, c0, c1, c2⟩ := (RL.out wq U3.out).at_ hkt
        cases e2
        obtain ⟨t2, ht⟩ : ∃ t2, t2 = ts[k] := ⟨_, rfl⟩
        rw [← ht] at c0 c1 c2
        have TK2 : Hid (ts.take (k + 1) = ts.take k ++ [t2]) := by show _ = _; rw [ht, List.take_append_getElem]
        replace c1 : wq.cell? ⟨gl, k * 3 + 1, none⟩ = some (.slice t2.ia t2.il t2.ic) := c1
        replace c2 : wq.cell? ⟨gl, k * 3 + 2, none⟩ = some (.slice t2.ca t2.cl t2.cc) := c2
        clear ht
        obtain ⟨AC, cC, hvc⟩ := ownsRow_slice S3.out.kC
        obtain ⟨nC, hnC⟩ : ∃ m, m = (vC ++ (ts.take k).map WT.vc).length := ⟨_, rfl⟩
        rw [← hnC] at hvc
        subst hvc
        have HNC := Lib.hid hnC
        have hnC2 : nC ≤ 200000 := by rw [hnC]; simp; omega
        clear hnC
        obtain ⟨⟨p0, p1, p2⟩, z0, z1, z2⟩ := cells3 S3.out.box
        have NW : Hid (∀ j u, ([.slice t2.ca t2.cl t2.cc] : List Value)[j]? = some u → ((wq.alloc (.cells #[.slice t2.ca t2.cl t2.cc] 51)).drew).cell? ((⟨wq.heap.size, 0, none⟩ : Addr).add j) = some u) := news1 (wq.alloc _) (heap_alloc_at _ _)
        have RA : Hid (((wq.alloc (.cells #[.slice t2.ca t2.cl t2.cc] 51)).drew).ownsRow (X + 1) 51 1 (.slice AC nC cC) nC (vC ++ (ts.take k).map WT.vc)) := by
          have := S3.out.kC
          rw [← HNC.out] at this
          exact this.alloc _
        have hXl3 := heap_lt S3.out.box
        have AF : Hid (∀ (g5 cap5 : Nat) (w5 : World), w5.ownsRow (X + 1) 51 1 (.slice (some ⟨g5, 0, none⟩) (nC + 1) cap5) (nC + 1) ((vC ++ (ts.take k).map WT.vc) ++ [.slice t2.ca t2.cl t2.cc]) →
            ((wq.alloc (.cells #[.slice t2.ca t2.cl t2.cc] 51)).drew).grownBy w5 (Value.slice AC nC cC).ownBlock → ((Value.slice AC nC cC).ownBlock = some g5 ∨ g5 = ((wq.alloc (.cells #[.slice t2.ca t2.cl t2.cc] 51)).drew).heap.size) →
            Hid (BkSt (w5.setCell ⟨X, 2, none⟩ (.slice (some ⟨g5, 0, none⟩) (nC + 1) cap5)) X (vI ++ (ts.take (k + 1)).map WT.vi) (vC ++ (ts.take (k + 1)).map WT.vc) lw bI (.slice (some ⟨g5, 0, none⟩) (nC + 1) cap5) vw) ∧ Hid (Upd w (w5.setCell ⟨X, 2, none⟩ (.slice (some ⟨g5, 0, none⟩) (nC + 1) cap5)) (fun k => X ≤ k)) ∧ w5.heap[X]? = some (.cells #[vw, bI, .slice AC nC cC] 47 (0, 0))) := fun g5 cap5 w5 ho hg hat => by
          obtain ⟨f1, f2, f3⟩ := S3.out.putC ho HNC.out (Gr.mk' hg hat)
          refine ⟨?_, U3.out.trans f2 (fun i _ h => h), f3⟩
          have e1 : vC ++ (ts.take (k + 1)).map WT.vc = (vC ++ (ts.take k).map WT.vc) ++ [.slice t2.ca t2.cl t2.cc] := by
            rw [TK2.out, List.map_append, ← List.append_assoc]
            rfl
          show BkSt _ _ _ _ _ _ _ _
          rw [e1]
          exact f1
        go_wp2_with (fail)
        go_region_law (refine step_append_lies _ rfl (.tmp 39) (.tmp 45) 45 rfl (X + 1) 51 i2 _ 1 24 Tryd.underlying45 hi2 hz0 hz1 hz2 rfl (by decide) (.slice AC nC cC) nC _ (by first | rfl | simp [Act.eval, Act.put]) RA.out ⟨wq.heap.size, 0, none⟩ 1 1 [.slice t2.ca t2.cl t2.cc] (by first | rfl | simp [Act.eval, Act.put]) rfl NW.out (by simp [Value.oneCell']) (by decide) (by simp only [maxLen]; omega) (by omega) (by simp; omega) _ rfl ?_; intro g5 cap5 w5 ho hgr hat hlt'; obtain ⟨S5, U5, bx⟩ := AF.out g5 cap5 w5 ho hgr hat; obtain ⟨⟨t0, t1, t2'⟩, s0, s1, s2⟩ := cells3 bx; clear bx ho hgr hat hlt')
        all_goals
          go_wp2_with (fail)
          go_roundw
          case rel => exact ⟨k + 1, _, _, hlt, by go_num, S5, U5⟩
          case measure => first | (simp [intOf]; done) | (simp [intOf]; omega)
    · have e : k = n := by omega
      subst e
      have FIN : Hid ((∃ rI' rC' rW', BkSt wr X (vI ++ ts.map WT.vi) (vC ++ ts.map WT.vc) (vW ++ [.slice A k c]) rI' rC' rW') ∧ Upd w wr (fun k => X ≤ k)) := by
        have h1 := S2.out
        rw [HN.out, List.take_length, HLW.out] at h1
        exact ⟨⟨_, _, _, h1⟩, U2.out⟩
      have hkn : ¬ (k : Int) < (k : Int) := by omega
      clear S2 U2
      go_wp2_with (fail)
      first | go_end0 | refine bodyPost_ret (results_none rfl _ _ _) rfl ?_
      exact ⟨rfl, FIN.out.1, FIN.out.2⟩
end Go.Proofs.YtabeljpnmmfpgaaDoor

namespace Go.Proofs.YtabeljpnmmfpgaaDoor
open Go.RowKit Go.MapKept Go.Maps Go.Sort
set_option linter.unusedVariables false
set_option linter.unusedSimpArgs false

def lstR : Except (Int × Int) (List FW) → List FW
  | .ok ws => ws
  | .error _ => []
def ezR : Except (Int × Int) (List FW) → Int
  | .ok _ => 0
  | .error e => e.1
def eaR : Except (Int × Int) (List FW) → Int
  | .ok _ => 0
  | .error e => e.2
theorem words_one {w w' : World} {r : Except (Int × Int) (List FW)} {e : Ending} (h : WordsPost w r e w') : Below w.heap.size w w' ∧ ∃ A n c ts, e = .returned (.tuple #[.slice A n c, .agg #[.int .i64 (ezR r), .int .u16 (eaR r)]]) ∧ n = (lstR r).length ∧ n = ts.length ∧ WordsAt w' w.heap.size (.slice A n c) ts (lstR r) := by
  obtain ⟨b, h⟩ := h
  cases r with
  | ok ws =>
    obtain ⟨v, ts, rfl, q⟩ := h
    obtain ⟨A, c, rfl⟩ := q.row.slice
    have e1 := q.reps.len
    exact ⟨b, A, ts.length, c, ts, rfl, e1, rfl, q⟩
  | error ez =>
    obtain ⟨z, a⟩ := ez
    have h : e = .returned (.tuple #[.slice none 0 0, .agg #[.int .i64 z, .int .u16 a]]) := h
    exact ⟨b, none, 0, 0, [], h, rfl, rfl, World.ownsRow_nil _ _ _ _, trivial, by simp [Value.ownBlock, blks]⟩
theorem rwords_one {w w' : World} {r : Except (Int × Int) (List FW)} {e : Ending} (h : RWordsPost w r e w') : Below w.heap.size w w' ∧ ∃ A n c ts, e = .returned (.tuple #[.slice A n c, .int .i64 (ezR r), .int .u16 (eaR r)]) ∧ n = (lstR r).length ∧ RWordsAt w' w.heap.size (.slice A n c) ts (lstR r) := by
  obtain ⟨b, h⟩ := h
  cases r with
  | ok ws =>
    obtain ⟨v, ts, rfl, q⟩ := h
    obtain ⟨A, c, rfl⟩ := q.row.slice
    have e1 := q.reps.len
    exact ⟨b, A, ts.length, c, ts, rfl, e1, q⟩
  | error ez =>
    obtain ⟨z, a⟩ := ez
    have h : e = .returned (.tuple #[.slice none 0 0, .int .i64 z, .int .u16 a]) := h
    exact ⟨b, none, 0, 0, [], h, rfl, World.ownsRow_nil _ _ _ _, trivial⟩
/-- What the words that are told are. -/
theorem wordsFull_ok {kw k : Nat} {code : List Int} {en : Int} {E : List (Int × Int × Int)} {B : List (Int × Nat)} {r : Except (Int × Int) (List FW)} (hb : ∀ j, 0 ≤ code.getD j 0 ∧ code.getD j 0 < 256) (h0 : 0 ≤ en) (h1 : en < 65536) (h : wordsFull kw k code en E B = some r) :
    (lstR r).length ≤ 16384 ∧ ∀ x ∈ lstR r, (0 ≤ x.at_ ∧ x.at_ < 65536) ∧ x.instrs.length ≤ 16384 ∧ x.calls.length ≤ 16384 := by
  unfold wordsFull at h
  by_cases hok : cartOk code.length E B = true
  · rw [if_pos hok] at h
    have hl : code.length ≤ 16384 := by
      unfold cartOk at hok
      simp at hok
      omega
    unfold wordsOf at h
    cases hw : wsl code kw k [en] [] [] [] with
    | none => rw [hw] at h; cases h
    | some R =>
      rw [hw] at h
      cases h
      cases R with
      | error e => exact ⟨Nat.zero_le _, fun x hx => by cases hx⟩
      | ok acc =>
        obtain ⟨seen, T, hi⟩ := wsl_inv hb k _ _ _ _ _ (SInv.start code en ⟨h0, h1⟩) hw
        have hp := sortFW_perm acc
        refine ⟨?_, fun x hx => ?_⟩
        · show (sortFW acc).length ≤ _
          rw [hp.length_eq]
          have := hi.lens
          omega
        · have hx' := hp.mem_iff.1 hx
          obtain ⟨o1, o2⟩ := hi.ok x hx'
          have := o1.inv.lens
          exact ⟨o2, by omega, by omega⟩
  · rw [if_neg hok] at h
    cases h
    exact ⟨Nat.zero_le _, fun x hx => by cases hx⟩

theorem Reps.get {w : World} {base : Nat} : ∀ {ts : List WT} {ws : List FW}, Reps w base ts ws → ∀ (i : Nat) (h1 : i < ts.length) (h2 : i < ws.length), WRep w base ts[i] ws[i]
  | t :: ts, x :: ws, h, 0, _, _ => h.1
  | t :: ts, x :: ws, h, i + 1, h1, h2 => by simpa using Reps.get h.2 i (by simpa using h1) (by simpa using h2)
/-- Words of the program are read. -/
theorem wordsAt_fwin {w : World} {base n c : Nat} {A : Option Addr} {ts : List WT} {ws : List FW} (h : WordsAt w base (.slice A n c) ts ws) (hs : ∀ x ∈ ws, (0 ≤ x.at_ ∧ x.at_ < 65536) ∧ x.instrs.length ≤ 16384 ∧ x.calls.length ≤ 16384) : FWin w A ws := fun i hi => by
  have hi' : i < ts.length := by rw [h.reps.len]; exact hi
  have q := h.reps.get i hi' hi
  obtain ⟨⟨a0, a1⟩, s1, s2⟩ := hs _ (List.getElem_mem hi)
  obtain ⟨g, rfl, c0, c1, c2⟩ := h.row.at_ hi'
  rw [q.at_] at c0
  obtain ⟨t, ht⟩ : ∃ t, t = ts[i] := ⟨_, rfl⟩
  obtain ⟨x, hxx⟩ : ∃ x, x = ws[i] := ⟨_, rfl⟩
  rw [← ht] at q c1 c2
  rw [← hxx] at q c0 a0 a1 s1 s2 ⊢
  obtain ⟨ta, ia, il, ic, ca, cl, cc⟩ := t
  obtain ⟨A1, k1, e1⟩ := q.rowi.slice
  obtain ⟨A2, k2, e2⟩ := q.rowc.slice
  have e1 : Value.slice ia il ic = .slice A1 x.instrs.length k1 := e1
  have e2 : Value.slice ca cl cc = .slice A2 x.calls.length k2 := e2
  injection e1 with e3 e4 e5
  injection e2 with e6 e7 e8
  subst e3 e4 e5 e6 e7 e8
  refine ⟨g, 0, ia, ic, ca, cc, rfl, ?_⟩
  rw [Nat.zero_add]
  have qi : w.ownsRow base 60 5 (.slice ia x.instrs.length ic) x.instrs.length (x.instrs.flatMap FI.cells) := q.rowi
  exact ⟨a0, a1, c0, c1, c2, insIn_of_row qi (by omega), RowU.atsIn q.rowc (by omega), by omega, fun e => by
    rcases q.rowc.2 with ⟨e1, _⟩ | ⟨g', cap, cur, e1, _⟩
    · have e1 : Value.slice ca x.calls.length cc = .slice none 0 0 := e1
      injection e1
    · have e1 : Value.slice ca x.calls.length cc = .slice (some ⟨g', 0, none⟩) x.calls.length cap := e1
      rw [e] at e1
      cases e1⟩

/-! ### answers that are kept -/
structure WRec where
  v : Value
  t : List WT
  l : List FW
  b : Nat
  e : Nat
structure WAt (W : World) (q : WRec) : Prop where
  at_ : WordsAt W q.b q.v q.t q.l
  lt : ∀ k ∈ q.v.ownBlock.toList ++ blks q.t, q.b ≤ k ∧ k < q.e
theorem WAt.keep {W W' : World} {q : WRec} (h : WAt W q) (hm : ∀ k, q.b ≤ k → k < q.e → W'.heap[k]? = W.heap[k]?) : WAt W' q :=
  ⟨⟨h.at_.row.move (fun k hk => by have := h.lt k (by simp [hk]); exact hm k this.1 this.2), h.at_.reps.move (fun k hk => by have := h.lt k (by simp [hk]); exact hm k this.1 this.2), h.at_.apart⟩, h.lt⟩
theorem WAt.mk' {W : World} {b : Nat} {v : Value} {t : List WT} {l : List FW} (h : WordsAt W b v t l) : WAt W ⟨v, t, l, b, W.heap.size⟩ :=
  ⟨h, fun k hk => by
    rcases List.mem_append.1 hk with hk | hk
    · have := h.row.own k (by simpa using hk); exact ⟨this.2, this.1⟩
    · have := h.reps.lt k hk; exact ⟨this.2, this.1⟩⟩
theorem WAt.none (W : World) (s : Nat) : WAt W ⟨.slice none 0 0, [], [], s, s⟩ :=
  ⟨⟨World.ownsRow_nil _ _ _ _, trivial, by simp [Value.ownBlock, blks]⟩, fun k hk => by simp [Value.ownBlock, blks] at hk⟩
structure RAt (W : World) (q : WRec) : Prop where
  at_ : RWordsAt W q.b q.v q.t q.l
  lt : ∀ k ∈ q.v.ownBlock.toList ++ blks q.t, q.b ≤ k ∧ k < q.e
theorem RAt.keep {W W' : World} {q : WRec} (h : RAt W q) (hm : ∀ k, q.b ≤ k → k < q.e → W'.heap[k]? = W.heap[k]?) : RAt W' q :=
  ⟨⟨h.at_.row.move (fun k hk => by have := h.lt k (by simp [hk]); exact hm k this.1 this.2), h.at_.reps.move (fun k hk => by have := h.lt k (by simp [hk]); exact hm k this.1 this.2)⟩, h.lt⟩
theorem RAt.mk' {W : World} {b : Nat} {v : Value} {t : List WT} {l : List FW} (h : RWordsAt W b v t l) : RAt W ⟨v, t, l, b, W.heap.size⟩ :=
  ⟨h, fun k hk => by
    rcases List.mem_append.1 hk with hk | hk
    · have := h.row.own k (by simpa using hk); exact ⟨this.2, this.1⟩
    · have := h.reps.lt k hk; exact ⟨this.2, this.1⟩⟩
/-- Where the law stands: the cartridge, its copy, the verdict, and what was told. -/
structure FwSt (w W : World) (cart dcart : Array Value) (D Y g n cap : Nat) (code : List Int) (z a : Int) (q1 m q2 : WRec) : Prop where
  below : Below w.heap.size w W
  box : W.heap[w.heap.size]? = some (.cells cart 27 (0, 0))
  dbox : W.heap[D]? = some (.cells dcart 27 (0, 0))
  row : W.ownsRow w.heap.size 5 1 (.slice (some ⟨g, 0, none⟩) (n + 2) cap) (n + 2) ((code ++ [77, 78]).map (Value.int .u8))
  vd : VdAt W Y z a
  w1 : WAt W q1
  wm : RAt W m
  w2 : WAt W q2
  o1 : w.heap.size < g ∧ g < D ∧ D < q1.b ∧ q1.e ≤ Y ∧ Y < m.b ∧ m.e ≤ q2.b
  o2 : q1.b ≤ q1.e ∧ m.b ≤ m.e ∧ q2.b ≤ q2.e ∧ q2.e ≤ W.heap.size
section
variable {w W W' : World} {cart dcart : Array Value} {D Y g n cap : Nat} {code code' : List Int} {z a z' a' : Int} {q1 m q2 q : WRec}
theorem FwSt.keep (h : FwSt w W cart dcart D Y g n cap code z a q1 m q2) (hb : Below w.heap.size w W') (hs : W.heap.size ≤ W'.heap.size) (hm : ∀ k, k < W.heap.size → k ≠ g → k ≠ Y → W'.heap[k]? = W.heap[k]?) (hr : W'.ownsRow w.heap.size 5 1 (.slice (some ⟨g, 0, none⟩) (n + 2) cap) (n + 2) ((code' ++ [77, 78]).map (Value.int .u8))) (hv : VdAt W' Y z' a') :
    FwSt w W' cart dcart D Y g n cap code' z' a' q1 m q2 := by
  obtain ⟨o1, o2, o3, o4, o5, o6⟩ := h.o1
  obtain ⟨p1, p2, p3, p4⟩ := h.o2
  exact ⟨hb, (hm _ (heap_lt h.box) (by omega) (by omega)).trans h.box, (hm _ (heap_lt h.dbox) (by omega) (by omega)).trans h.dbox, hr, hv, h.w1.keep (fun k h1 h2 => hm k (by omega) (by omega) (by omega)), h.wm.keep (fun k h1 h2 => hm k (by omega) (by omega) (by omega)), h.w2.keep (fun k h1 h2 => hm k (by omega) (by omega) (by omega)), h.o1, p1, p2, p3, by omega⟩
theorem FwSt.bel (h : FwSt w W cart dcart D Y g n cap code z a q1 m q2) (hb : Below W.heap.size W W') : FwSt w W' cart dcart D Y g n cap code z a q1 m q2 :=
  h.keep (b_then h.below hb) hb.size (fun k hk _ _ => hb.block k hk) (ownsRow_keep h.row (fun k hk => hb.block k (ownsRow_own h.row k hk).1)) (h.vd.below hb)
theorem FwSt.again (h : FwSt w W cart dcart D Y g n cap code z a q1 m q2) (hb : Below W.heap.size W W') (hq : WAt W' q) (h1 : q.b = W.heap.size) (h2 : q.e = W'.heap.size) : FwSt w W' cart dcart D Y g n cap code z a q1 m q := by
  have k := h.bel hb
  obtain ⟨o1, o2, o3, o4, o5, o6⟩ := h.o1
  obtain ⟨p1, p2, p3, p4⟩ := h.o2
  have := hb.size
  exact ⟨k.below, k.box, k.dbox, k.row, k.vd, k.w1, k.wm, hq, ⟨o1, o2, o3, o4, o5, by omega⟩, p1, p2, by omega, by omega⟩
theorem FwSt.glt (h : FwSt w W cart dcart D Y g n cap code z a q1 m q2) : g < W.heap.size ∧ Y < W.heap.size ∧ D < W.heap.size := ⟨(ownsRow_some h.row).2.1, heap_lt h.vd, heap_lt h.dbox⟩
/-- The last cell is another. -/
theorem FwSt.xor (h : FwSt w W cart dcart D Y g n cap code z a q1 m q2) {i : Nat} {u : Int} (hi : i < code.length) (hn : n = code.length) : FwSt w (W.setCell ⟨g, i, none⟩ (.int .u8 u)) cart dcart D Y g n cap (code.set i u) z a q1 m q2 := by
  have hu : Upd W (W.setCell ⟨g, i, none⟩ (.int .u8 u)) (fun k => k = g) := (Upd.refl W (fun k => k = g)).setCell (p := ⟨g, i, none⟩) (fun _ => rfl) _
  have hg := h.glt
  obtain ⟨o1, o2, o3, o4, o5, o6⟩ := h.o1
  obtain ⟨p1, p2, p3, p4⟩ := h.o2
  refine h.keep (h.below.trans (hu.below h.below.size (fun k hk => by omega))) hu.size (fun k hk h1 _ => hu.block k hk h1) ?_ ?_
  · have e : ((code.set i u ++ [77, 78]).map (Value.int .u8)) = ((code ++ [77, 78]).map (Value.int .u8)).set i (.int .u8 u) := by
      rw [← List.set_append_left _ _ hi, List.map_set]
    rw [e]
    exact own_set5 h.row (by omega)
  · exact (hu.block Y hg.2.1 (by omega)).trans h.vd
/-- The verdict is another. -/
theorem FwSt.setv (h : FwSt w W cart dcart D Y g n cap code z a q1 m q2) : FwSt w ((W.setCell ⟨Y, 0, none⟩ (.int .i64 z')).setCell ⟨Y, 1, none⟩ (.int .u16 a')) cart dcart D Y g n cap code z' a' q1 m q2 := by
  have hu : Upd W ((W.setCell ⟨Y, 0, none⟩ (.int .i64 z')).setCell ⟨Y, 1, none⟩ (.int .u16 a')) (fun k => k = Y) := ((Upd.refl W (fun k => k = Y)).setCell (p := ⟨Y, 0, none⟩) (fun _ => rfl) _).setCell (p := ⟨Y, 1, none⟩) (fun _ => rfl) _
  have hg := h.glt
  obtain ⟨o1, o2, o3, o4, o5, o6⟩ := h.o1
  obtain ⟨p1, p2, p3, p4⟩ := h.o2
  refine h.keep (h.below.trans (hu.below h.below.size (fun k hk => by omega))) hu.size (fun k hk _ h1 => hu.block k hk h1) (ownsRow_keep h.row (fun k hk => ?_)) (heap_set_cell (heap_set_cell h.vd 0 _) 1 _)
  have : g = k := by simpa [Value.ownBlock] using hk
  subst this
  exact hu.block _ hg.1 (by omega)
end

/-! ### the book at last -/
theorem mkd_of_rowC {W : World} {base b0 : Nat} {v : Value} {l : List Int} (h : RowU W b0 v l) (hb : base ≤ b0) (hl : l.length ≤ 1000000) : Mkd shC W base 23 1 v [] 0 := by
  obtain ⟨A, c, rfl⟩ := h.slice
  refine ⟨⟨l.map (Value.int .u16), ownsRow_lower h hb, fun t u hu => ?_, fun t ht => absurd ht (Nat.not_lt_zero _)⟩, hl, Nat.zero_le _⟩
  rw [List.getElem?_map] at hu
  obtain ⟨y, _, rfl⟩ := Option.map_eq_some_iff.1 hu
  exact ⟨y, rfl⟩
theorem mkd_of_rowI {W : World} {base b0 : Nat} {v : Value} {l : List FI} (h : RowI W b0 v l) (hb : base ≤ b0) (hl : l.length ≤ 1000000) : Mkd shI W base 60 5 v [] 0 := by
  obtain ⟨A, c, rfl⟩ := h.slice
  refine ⟨⟨l.flatMap FI.cells, ownsRow_lower h hb, fun t u hu => ?_, fun t ht => absurd ht (Nat.not_lt_zero _)⟩, hl, Nat.zero_le _⟩
  have ht : t < l.length * 5 := by
    have := (List.getElem?_eq_some_iff.1 hu).1
    rwa [flat5_len] at this
  have h1 : t / 5 < l.length := by omega
  rw [show t = t / 5 * 5 + t % 5 by omega, flat5 l (t / 5) (t % 5) h1 (by omega)] at hu
  have h2 : t % 5 = 0 ∨ t % 5 = 1 ∨ t % 5 = 2 ∨ t % 5 = 3 ∨ t % 5 = 4 := by omega
  unfold shI
  rcases h2 with h2 | h2 | h2 | h2 | h2 <;> rw [h2] at hu ⊢
  · rw [if_neg (by decide)]; exact ⟨_, (Option.some.inj hu).symm⟩
  · rw [if_pos rfl]; exact ⟨_, (Option.some.inj hu).symm⟩
  · rw [if_neg (by decide)]; exact ⟨_, (Option.some.inj hu).symm⟩
  · rw [if_neg (by decide)]; exact ⟨_, (Option.some.inj hu).symm⟩
  · rw [if_neg (by decide)]; exact ⟨_, (Option.some.inj hu).symm⟩
theorem mkd_of_rowW {W : World} {base b0 : Nat} {v : Value} {l : List WT} (h : RowW W b0 v l) (hb : base ≤ b0) (hl : l.length ≤ 1000000) : Mkd shW W base 53 3 v [] 0 := by
  obtain ⟨A, c, rfl⟩ := h.slice
  refine ⟨⟨l.flatMap WT.cells, ownsRow_lower h hb, fun t u hu => ?_, fun t ht => absurd ht (Nat.not_lt_zero _)⟩, hl, Nat.zero_le _⟩
  have ht : t < l.length * 3 := by
    have := (List.getElem?_eq_some_iff.1 hu).1
    rwa [flat3_len] at this
  have h1 : t / 3 < l.length := by omega
  rw [show t = t / 3 * 3 + t % 3 by omega, flat3 l (t / 3) (t % 3) h1 (by omega)] at hu
  have h2 : t % 3 = 0 ∨ t % 3 = 1 ∨ t % 3 = 2 := by omega
  unfold shW
  rcases h2 with h2 | h2 | h2 <;> rw [h2] at hu ⊢
  · rw [if_pos rfl]; exact ⟨_, (Option.some.inj hu).symm⟩
  · rw [if_neg (by decide)]; exact ⟨_, _, _, (Option.some.inj hu).symm⟩
  · rw [if_neg (by decide)]; exact ⟨_, _, _, (Option.some.inj hu).symm⟩
theorem bks_map_mem {f : WT → Value} (hf : ∀ t k, (f t).ownBlock = some k → k ∈ t.blks) {ts : List WT} {b : Nat} (h : b ∈ bks (ts.map f)) : b ∈ blks ts := by
  obtain ⟨v, hv, hb⟩ := List.mem_flatMap.1 h
  obtain ⟨t, ht, rfl⟩ := List.mem_map.1 hv
  exact List.mem_flatMap.2 ⟨t, ht, hf t b (by simpa using hb)⟩
theorem vi_mem (t : WT) (k : Nat) (h : t.vi.ownBlock = some k) : k ∈ t.blks := by simp [WT.blks, h]
theorem vc_mem (t : WT) (k : Nat) (h : t.vc.ownBlock = some k) : k ∈ t.blks := by simp [WT.blks, h]
theorem blks_parts : ∀ {ts : List WT}, (blks ts).Nodup → (bks (ts.map WT.vi)).Nodup ∧ (bks (ts.map WT.vc)).Nodup ∧ ∀ b ∈ bks (ts.map WT.vi), b ∉ bks (ts.map WT.vc)
  | [], _ => ⟨List.nodup_nil, List.nodup_nil, fun b h => by cases h⟩
  | t :: ts, h => by
    have h' : (t.blks ++ blks ts).Nodup := h
    obtain ⟨h1, h2, h3⟩ := List.nodup_append.1 h'
    obtain ⟨i1, i2, i3⟩ := blks_parts h2
    obtain ⟨t1, t2, t3⟩ := List.nodup_append.1 h1
    have mi : ∀ k ∈ t.vi.ownBlock.toList, k ∈ t.blks := fun k hk => List.mem_append_left _ hk
    have mc : ∀ k ∈ t.vc.ownBlock.toList, k ∈ t.blks := fun k hk => List.mem_append_right _ hk
    refine ⟨?_, ?_, fun b hb hc => ?_⟩
    · show (t.vi.ownBlock.toList ++ bks (ts.map WT.vi)).Nodup
      exact List.nodup_append.2 ⟨t1, i1, fun x hx y hy e => h3 x (mi x hx) y (bks_map_mem vi_mem hy) e⟩
    · show (t.vc.ownBlock.toList ++ bks (ts.map WT.vc)).Nodup
      exact List.nodup_append.2 ⟨t2, i2, fun x hx y hy e => h3 x (mc x hx) y (bks_map_mem vc_mem hy) e⟩
    · have hb : b ∈ t.vi.ownBlock.toList ++ bks (ts.map WT.vi) := hb
      have hc : b ∈ t.vc.ownBlock.toList ++ bks (ts.map WT.vc) := hc
      rcases List.mem_append.1 hb with hb | hb <;> rcases List.mem_append.1 hc with hc | hc
      · exact t3 b hb b hc rfl
      · exact h3 b (mi b hb) b (bks_map_mem vc_mem hc) rfl
      · exact h3 b (mc b hc) b (bks_map_mem vi_mem hb) rfl
      · exact i3 b hb hc
theorem fld_of_row {W : World} {X i base n c : Nat} {e : TypeId} {A : Option Addr} {vs : List Value} (hc : W.cell? ⟨X, i, none⟩ = some (.slice A n c)) (h : W.ownsRow base e 1 (.slice A n c) n vs) (hn : n = vs.length) : Fld W X i vs A c := by
  subst hn
  refine ⟨hc, fun j hj => ?_⟩
  rcases h.2 with ⟨e1, hn⟩ | ⟨g, cap, cur, e1, hg, _⟩
  · omega
  · cases e1
    have := h.cells (g := g) rfl j vs[j] (List.getElem?_eq_getElem hj)
    rw [add0] at this
    exact ⟨g, 0, rfl, by rw [Nat.zero_add]; exact this⟩
theorem Reps.mem {w : World} {base : Nat} : ∀ {ts : List WT} {ws : List FW}, Reps w base ts ws → ∀ t ∈ ts, ∃ x ∈ ws, WRep w base t x
  | t :: ts, x :: ws, h, u, hu => by
    rcases List.mem_cons.1 hu with rfl | hu
    · exact ⟨x, List.mem_cons_self, h.1⟩
    · obtain ⟨y, hy, q⟩ := Reps.mem h.2 u hu
      exact ⟨y, List.mem_cons_of_mem _ hy, q⟩
/-- What each list that is in the book is. -/
structure Good (q : WRec) : Prop where
  len : q.l.length ≤ 16384
  ok : ∀ x ∈ q.l, (0 ≤ x.at_ ∧ x.at_ < 65536) ∧ x.instrs.length ≤ 16384 ∧ x.calls.length ≤ 16384
theorem WAt.nodup {W : World} {q : WRec} (h : WAt W q) : (q.v.ownBlock.toList ++ blks q.t).Nodup := h.at_.apart
theorem WAt.mkI {W : World} {q : WRec} {base : Nat} (h : WAt W q) (g : Good q) (hb : base ≤ q.b) : ∀ t ∈ q.t, Mkd shI W base 60 5 t.vi [] 0 ∧ Mkd shC W base 23 1 t.vc [] 0 := fun t ht => by
  obtain ⟨x, hx, r⟩ := h.at_.reps.mem t ht
  obtain ⟨_, s1, s2⟩ := g.ok x hx
  exact ⟨mkd_of_rowI r.rowi hb (by omega), mkd_of_rowC r.rowc hb (by omega)⟩
theorem WAt.mkW {W : World} {q : WRec} {base : Nat} (h : WAt W q) (g : Good q) (hb : base ≤ q.b) : Mkd shW W base 53 3 q.v [] 0 := mkd_of_rowW h.at_.row hb (by rw [h.at_.reps.len]; have := g.len; omega)
theorem book_words {W : World} {base X : Nat} {q1 q2 q3 : WRec} {vI vC vW : List Value} {AI AC AW : Option Addr} {nI nC nW cI cC cW : Nat} (h1 : WAt W q1) (h2 : WAt W q2) (h3 : WAt W q3) (g1 : Good q1) (g2 : Good q2) (g3 : Good q3)
    (ho : base ≤ q1.b ∧ q1.b ≤ q1.e ∧ q1.e ≤ q2.b ∧ q2.b ≤ q2.e ∧ q2.e ≤ q3.b ∧ q3.b ≤ q3.e ∧ q3.e ≤ X) (hS : BkSt W X vI vC vW (.slice AI nI cI) (.slice AC nC cC) (.slice AW nW cW))
    (eI : vI = (q1.t ++ (q2.t ++ q3.t)).map WT.vi) (eC : vC = (q1.t ++ (q2.t ++ q3.t)).map WT.vc) (eW : vW = [q1.v, q2.v, q3.v]) :
    BookAt W base X vI vC vW AI AC AW cI cC cW ∧ ∀ b, anyB vI vC vW b → base ≤ b := by
  subst eI eC eW
  obtain ⟨o1, o2, o3, o4, o5, o6, o7⟩ := ho
  have sl : ∀ {A : Option Addr} {n c m : Nat} {e : TypeId} {xs : List Value}, W.ownsRow (X + 1) e 1 (.slice A n c) m xs → n = m := fun h => by
    obtain ⟨A2, c2, e⟩ := ownsRow_slice h
    injection e
  have lI := sl hS.kI
  have lC := sl hS.kC
  have lW := sl hS.kW
  subst lI lC lW
  have m1 : ∀ b, b ∈ q1.v.ownBlock.toList ++ blks q1.t → q1.b ≤ b ∧ b < q1.e := h1.lt
  have m2 : ∀ b, b ∈ q2.v.ownBlock.toList ++ blks q2.t → q2.b ≤ b ∧ b < q2.e := h2.lt
  have m3 : ∀ b, b ∈ q3.v.ownBlock.toList ++ blks q3.t → q3.b ≤ b ∧ b < q3.e := h3.lt
  have n1 := List.nodup_append.1 h1.nodup
  have n2 := List.nodup_append.1 h2.nodup
  have n3 := List.nodup_append.1 h3.nodup
  have eB : blks (q1.t ++ (q2.t ++ q3.t)) = blks q1.t ++ (blks q2.t ++ blks q3.t) := by unfold blks; rw [List.flatMap_append, List.flatMap_append]
  have nB : (blks (q1.t ++ (q2.t ++ q3.t))).Nodup := by
    rw [eB]
    refine List.nodup_append.2 ⟨n1.2.1, List.nodup_append.2 ⟨n2.2.1, n3.2.1, fun x hx y hy e => ?_⟩, fun x hx y hy e => ?_⟩
    · have := m2 x (List.mem_append_right _ hx); have := m3 y (List.mem_append_right _ hy); omega
    · have := m1 x (List.mem_append_right _ hx)
      rcases List.mem_append.1 hy with hy | hy
      · have := m2 y (List.mem_append_right _ hy); omega
      · have := m3 y (List.mem_append_right _ hy); omega
  have lB : ∀ b ∈ blks (q1.t ++ (q2.t ++ q3.t)), base ≤ b ∧ b < X := fun b hb => by
    rw [eB] at hb
    rcases List.mem_append.1 hb with hb | hb
    · have := m1 b (List.mem_append_right _ hb); omega
    rcases List.mem_append.1 hb with hb | hb
    · have := m2 b (List.mem_append_right _ hb); omega
    · have := m3 b (List.mem_append_right _ hb); omega
  have eV : bks [q1.v, q2.v, q3.v] = q1.v.ownBlock.toList ++ (q2.v.ownBlock.toList ++ q3.v.ownBlock.toList) := by simp [bks]
  have lV : ∀ b ∈ bks [q1.v, q2.v, q3.v], base ≤ b ∧ b < X := fun b hb => by
    rw [eV] at hb
    rcases List.mem_append.1 hb with hb | hb
    · have := m1 b (List.mem_append_left _ hb); omega
    rcases List.mem_append.1 hb with hb | hb
    · have := m2 b (List.mem_append_left _ hb); omega
    · have := m3 b (List.mem_append_left _ hb); omega
  have dV : ∀ b ∈ blks (q1.t ++ (q2.t ++ q3.t)), b ∉ bks [q1.v, q2.v, q3.v] := fun b hb hv => by
    rw [eB] at hb
    rw [eV] at hv
    have r : ∀ c, c ∈ q1.v.ownBlock.toList ++ (q2.v.ownBlock.toList ++ q3.v.ownBlock.toList) → (c ∈ q1.v.ownBlock.toList ∧ q1.b ≤ c ∧ c < q1.e) ∨ (c ∈ q2.v.ownBlock.toList ∧ q2.b ≤ c ∧ c < q2.e) ∨ (c ∈ q3.v.ownBlock.toList ∧ q3.b ≤ c ∧ c < q3.e) := fun c hc => by
      rcases List.mem_append.1 hc with hc | hc
      · exact .inl ⟨hc, m1 c (List.mem_append_left _ hc)⟩
      rcases List.mem_append.1 hc with hc | hc
      · exact .inr (.inl ⟨hc, m2 c (List.mem_append_left _ hc)⟩)
      · exact .inr (.inr ⟨hc, m3 c (List.mem_append_left _ hc)⟩)
    rcases List.mem_append.1 hb with hb | hb
    · have q := m1 b (List.mem_append_right _ hb)
      rcases r b hv with hv | hv | hv
      · exact n1.2.2 b hv.1 b hb rfl
      · omega
      · omega
    rcases List.mem_append.1 hb with hb | hb
    · have q := m2 b (List.mem_append_right _ hb)
      rcases r b hv with hv | hv | hv
      · omega
      · exact n2.2.2 b hv.1 b hb rfl
      · omega
    · have q := m3 b (List.mem_append_right _ hb)
      rcases r b hv with hv | hv | hv
      · omega
      · omega
      · exact n3.2.2 b hv.1 b hb rfl
  have one : ∀ (o : Option Nat), o.toList.Nodup := fun o => by cases o <;> simp
  have nV : (bks [q1.v, q2.v, q3.v]).Nodup := by
    rw [eV]
    refine List.nodup_append.2 ⟨one _, List.nodup_append.2 ⟨one _, one _, fun x hx y hy e => ?_⟩, fun x hx y hy e => ?_⟩
    · have := m2 x (List.mem_append_left _ hx); have := m3 y (List.mem_append_left _ hy); omega
    · have := m1 x (List.mem_append_left _ hx)
      rcases List.mem_append.1 hy with hy | hy
      · have := m2 y (List.mem_append_left _ hy); omega
      · have := m3 y (List.mem_append_left _ hy); omega
  obtain ⟨p1, p2, p3⟩ := blks_parts nB
  have mk : ∀ t ∈ q1.t ++ (q2.t ++ q3.t), Mkd shI W base 60 5 t.vi [] 0 ∧ Mkd shC W base 23 1 t.vc [] 0 := fun t ht => by
    rcases List.mem_append.1 ht with ht | ht
    · exact h1.mkI g1 o1 t ht
    rcases List.mem_append.1 ht with ht | ht
    · exact h2.mkI g2 (by omega) t ht
    · exact h3.mkI g3 (by omega) t ht
  have lt : (q1.t ++ (q2.t ++ q3.t)).length ≤ 1000000 := by
    have e1 := h1.at_.reps.len
    have e2 := h2.at_.reps.len
    have e3 := h3.at_.reps.len
    have := g1.len
    have := g2.len
    have := g3.len
    simp only [List.length_append]
    omega
  have bx := hS.box
  have bl : ∀ {A : Option Addr} {n c m : Nat} {e : TypeId} {xs : List Value}, W.ownsRow (X + 1) e 1 (.slice A n c) m xs → ∀ ad, A = some ad → X + 1 ≤ ad.block := fun h ad e => by
    subst e
    exact (ownsRow_own h ad.block rfl).2
  refine ⟨⟨fld_of_row (by rw [cell_of bx]; rfl) hS.kI rfl, fld_of_row (by rw [cell_of bx]; rfl) hS.kC rfl, fld_of_row (by rw [cell_of bx]; rfl) hS.kW rfl, fun j hj => ?_, fun j hj => ?_, fun j hj => ?_, p1, p2, nV, p3, fun b hb => dV b (bks_map_mem vi_mem hb), fun b hb => dV b (bks_map_mem vc_mem hb), fun b hb => ?_, by simpa using lt, by simpa using lt, by simp⟩, fun b hb => ?_⟩
  · rw [List.getElem_map]
    exact (mk _ (List.getElem_mem _)).1
  · rw [List.getElem_map]
    exact (mk _ (List.getElem_mem _)).2
  · match j, hj with
    | 0, _ => exact h1.mkW g1 o1
    | 1, _ => exact h2.mkW g2 (by omega)
    | 2, _ => exact h3.mkW g3 (by omega)
  · have hX : X ≤ b := by
      rcases hb with rfl | ⟨ad, e1, rfl⟩ | ⟨ad, e1, rfl⟩ | ⟨ad, e1, rfl⟩
      · exact Nat.le_refl _
      · have := bl hS.kI ad e1; omega
      · have := bl hS.kC ad e1; omega
      · have := bl hS.kW ad e1; omega
    exact ⟨fun h => by have := lB b (bks_map_mem vi_mem h); omega, fun h => by have := lB b (bks_map_mem vc_mem h); omega, fun h => by have := lV b h; omega⟩
  · rcases hb with hb | hb | hb
    · exact (lB b (bks_map_mem vi_mem hb)).1
    · exact (lB b (bks_map_mem vc_mem hb)).1
    · exact (lV b hb).1
end Go.Proofs.YtabeljpnmmfpgaaDoor
