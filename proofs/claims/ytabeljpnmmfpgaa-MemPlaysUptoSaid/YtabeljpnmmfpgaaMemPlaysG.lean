/-
  A whole script: the beginning, what the caller writes over, the pair.
-/
import Derived.Test.YtabeljpnmmfpgaaMemPlaysF
import Derived.Test.YtabeljpnmmfpgaaMemPlaysE
import Derived.Test.YtabeljpnmmfpgaaMemPlaysC
import Derived.Test.YtabeljpnmmfpgaaMemPlaysB
import Derived.Test.YtabeljpnmmfpgaaMemKept
import Derived.Test.YtabeljpnmmfpgaaMemNew
import Derived.Test.YtabeljpnmmfpgaaRefNew
namespace Go.Proofs.Ytabeljpnmmfpgaa
open Go.RowKit Go.MapKept
set_option linter.unusedVariables false
set_option linter.unusedSimpArgs false

theorem plays_any {W : World} {q base k : Nat} {M : Nat → Mm} {b c : Nat → Nat} {S T : Nat → Nat → Prop} (h : PairAt W q base k M b c S T) (o : Opv) (ho : o.Ok) (hk : k + 3 < 1000000000) :
    Calls Try.prog 34 #[.pointer (some ⟨q, 0, none⟩), .agg o.cells] W (PlayPost W q base k) := by
  obtain ⟨kind, which, at_, x, y, cc, n⟩ := o
  by_cases hr : 1 ≤ kind ∧ kind ≤ 14
  · have : kind = 1 ∨ kind = 2 ∨ kind = 3 ∨ kind = 4 ∨ kind = 5 ∨ kind = 6 ∨ kind = 7 ∨ kind = 8 ∨ kind = 9 ∨ kind = 10 ∨ kind = 11 ∨ kind = 12 ∨ kind = 13 ∨ kind = 14 := by omega
    rcases this with rfl | rfl | rfl | rfl | rfl | rfl | rfl | rfl | rfl | rfl | rfl | rfl | rfl | rfl
    · exact plays_load h which at_ x y cc n ho hk
    · exact plays_cell h which at_ x y cc n ho hk
    · exact plays_store h which at_ x y cc n ho hk
    · exact plays_set h which at_ x y cc n ho hk
    · exact plays_begin h which at_ x y cc n ho hk
    · exact plays_cycle h which at_ x y cc n ho hk
    · exact plays_plot h which at_ x y cc n ho hk
    · exact plays_play h which at_ x y cc n ho hk
    · exact plays_choose h which at_ x y cc n ho hk
    · exact plays_tones h which at_ x y cc n ho hk
    · exact plays_screen h which at_ x y cc n ho hk
    · exact plays_image h which at_ x y cc n ho hk
    · exact plays_copy h which at_ x y cc n ho hk
    · exact plays_restore h which at_ x y cc n ho hk
  · exact plays_else h kind which at_ x y cc n ho hk (fun j h1 h2 e => hr (by omega))

/-- A script that a slice holds. -/
def OpsIn (w : World) (v : Value) (os : List Opv) : Prop :=
  ∃ a c, v = .slice a os.length c ∧ (0 < os.length → ∃ b o, a = some ⟨b, o, none⟩ ∧ ∀ i, i < os.length → ∀ j u, (os.getD i ⟨0, 0, 0, 0, 0, 0, 0⟩).cells[j]? = some u → w.cell? ⟨b, o + i * 7 + j, none⟩ = some u)

/-- The lists that were handed in are written over: their blocks alone. -/
structure FillIn (wx W : World) (l : List (Int × List Int)) (g : Nat → Nat) : Prop where
  upd : Upd wx W (fun x => ∃ i, i < l.length ∧ x = g i)
  blk : ∀ i, i < l.length → ∃ cs : Array Value, W.heap[g i]? = some (.cells cs 5 (0, 0)) ∧ (l.getD i (0, [])).2.length ≤ cs.size
theorem OwnRel.fill {w wr : World} {l : List (Int × List Int)} {v : Value} {g c : Nat → Nat} (h : OwnRel w wr l l.length v g c) {W : World} (hb : Below wr.heap.size wr W) : FillIn W W l g := by
  refine ⟨Upd.refl _ _, fun i hi => ?_⟩
  rcases (h.data i hi).2 with ⟨h0, _⟩ | ⟨q, cap, cur, h0, hq, hh, hnc, _, hcs, ht⟩
  · cases h0
  · cases h0
    exact ⟨cur, (hb.block _ (heap_lt hh)).trans hh, by omega⟩
theorem FillIn.set {wx W : World} {l : List (Int × List Int)} {g : Nat → Nat} (h : FillIn wx W l g) {i m : Nat} (hi : i < l.length) (u : Value) : FillIn wx (W.setCell ⟨g i, m, none⟩ u) l g := by
  refine ⟨h.upd.setCell (fun _ => ⟨i, hi, rfl⟩) _, fun j hj => ?_⟩
  obtain ⟨cs, h1, h2⟩ := h.blk j hj
  by_cases e : g j = g i
  · exact ⟨cs.setIfInBounds m u, by rw [e] at h1 ⊢; exact heap_set_cell h1 _ _, by simpa using h2⟩
  · exact ⟨cs, by rw [heap_set_far e]; exact h1, h2⟩

theorem newMem_chosen (l : List (Int × List Int)) (k : Nat) : (newMem l k).chosen < 16 := by show (0 : Int) < 16; decide

theorem PairAt.start {W : World} {q base : Nat} {M : Mm} {b0 b1 c0 c1 x1 x2 x3 x4 : Nat} {S0 S1 T0 T1 : Nat → Prop} (ho : W.heap[q]? = some (.cells #[ptr b0, ptr b1, ptr c0, ptr c1] 73 (0, 0)))
    (hS0 : MemRep W b0 M S0) (hS1 : MemRep W b1 M S1) (hT0 : RefRep W c0 M T0) (hT1 : RefRep W c1 M T1) (a0 : ∀ x, S0 x → base ≤ x ∧ x < x1) (a1 : ∀ x, T0 x → x1 ≤ x ∧ x < x2) (a2 : ∀ x, S1 x → x2 ≤ x ∧ x < x3) (a3 : ∀ x, T1 x → x3 ≤ x ∧ x < x4) (hq : x4 ≤ q)
    (h01 : base ≤ x1) (h12 : x1 ≤ x2) (h23 : x2 ≤ x3) (h34 : x3 ≤ x4) (ht : M.tones = []) (hc : M.chosen < 16) :
    PairAt W q base 0 (fun _ => M) (fun i => if i = 0 then b0 else b1) (fun i => if i = 0 then c0 else c1) (fun i => if i = 0 then S0 else S1) (fun i => if i = 0 then T0 else T1) := by
  have two : ∀ i, i < 2 → i = 0 ∨ i = 1 := fun i hi => by omega
  refine { obj := ho, mem := fun i hi => ?_, ref := fun i hi => ?_, tones := fun i hi => by rw [ht]; exact Nat.le_refl _, ch := fun i hi => hc, ss := fun i j hi hj hne x hx hx' => ?_, tt := fun i j hi hj hne x hx hx' => ?_, st := fun i j hi hj x hx hx' => ?_, nq := fun i hi => ?_, low := ⟨by omega, fun i hi x hx => ?_⟩ }
  · rcases two i hi with rfl | rfl
    · exact hS0
    · exact hS1
  · rcases two i hi with rfl | rfl
    · exact hT0
    · exact hT1
  · rcases two i hi with rfl | rfl <;> rcases two j hj with rfl | rfl
    · omega
    · have := a0 x hx; have := a2 x hx'; omega
    · have := a2 x hx; have := a0 x hx'; omega
    · omega
  · rcases two i hi with rfl | rfl <;> rcases two j hj with rfl | rfl
    · omega
    · have := a1 x hx; have := a3 x hx'; omega
    · have := a3 x hx; have := a1 x hx'; omega
    · omega
  · rcases two i hi with rfl | rfl <;> rcases two j hj with rfl | rfl
    · have := a0 x hx; have := a1 x hx'; omega
    · have := a0 x hx; have := a3 x hx'; omega
    · have := a2 x hx; have := a1 x hx'; omega
    · have := a2 x hx; have := a3 x hx'; omega
  · rcases two i hi with rfl | rfl
    · exact ⟨fun hx => by have := a0 _ hx; omega, fun hx => by have := a1 _ hx; omega⟩
    · exact ⟨fun hx => by have := a2 _ hx; omega, fun hx => by have := a3 _ hx; omega⟩
  · rcases two i hi with rfl | rfl
    · rcases hx with hx | hx
      · exact (a0 x hx).1
      · have := a1 x hx; omega
    · rcases hx with hx | hx
      · have := a2 x hx; omega
      · have := a3 x hx; omega
end Go.Proofs.Ytabeljpnmmfpgaa
