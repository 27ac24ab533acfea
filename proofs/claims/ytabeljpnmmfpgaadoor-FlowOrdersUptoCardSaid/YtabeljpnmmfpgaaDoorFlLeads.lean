/-
  Where an instruction leads on to.
-/
import Derived.Laws.OwnMore
import Derived.Test.YtabeljpnmmfpgaaDoorFlInstr3
import Derived.Test.YtabeljpnmmfpgaaDoorFlSet
namespace Go.Proofs.YtabeljpnmmfpgaaDoor
open Go.RowKit Go.MapKept
set_option linter.unusedVariables false
set_option linter.unusedSimpArgs false

def leadsOf (x : FI) : List Int :=
  if x.op = 4 then [x.operand] else if x.op = 5 ∨ x.op = 7 then [x.next, x.operand] else if x.op = 8 ∨ x.op = 11 then [] else [x.next]

theorem RowU.lit (w W : World) (h : w.heap.size ≤ W.heap.size) (x : Int) (l : List Int) (hl : l.length ≤ 10) : RowU (W.alloc (.cells ((x :: l).map (Value.int .u16)).toArray 23)) w.heap.size (.slice (some ⟨W.heap.size, 0, none⟩) (l.length + 1) (l.length + 1)) (x :: l) := by
  have := World.ownsRow_lit (base := w.heap.size) (e := 23) (size := 1) W ((x :: l).map (Value.int .u16)).toArray (l.length + 1) h (by simp only [maxLen]; omega) (by simp)
  simpa [RowU] using this

theorem RowU.lit1 (w : World) (o : Obj) (x : Int) (l : List Int) (hl : l.length ≤ 10) : RowU ((w.alloc o).alloc (.cells ((x :: l).map (Value.int .u16)).toArray 23)) w.heap.size (.slice (some ⟨w.heap.size + 1, 0, none⟩) (l.length + 1) (l.length + 1)) (x :: l) := by
  have h := RowU.lit w (w.alloc o) (by simp) x l hl
  have e : (w.alloc o).heap.size = w.heap.size + 1 := by simp
  rw [e] at h
  exact h

set_option maxRecDepth 100000 in
set_option maxHeartbeats 4000000 in
theorem leads_any (w : World) (x : FI) : Calls Tryd.prog 53 #[x.val] w fun e w' => ∃ v, e = .returned v ∧ RowU w' w.heap.size v (leadsOf x) ∧ Below w.heap.size w w' := by
  obtain ⟨a, o, p, d, n⟩ := x
  unfold FI.val leadsOf
  dsimp only
  have hc : o = 4 ∨ o = 5 ∨ o = 7 ∨ o = 8 ∨ o = 11 ∨ (o ≠ 4 ∧ o ≠ 5 ∧ o ≠ 7 ∧ o ≠ 8 ∧ o ≠ 11) := by omega
  rcases hc with rfl | rfl | rfl | rfl | rfl | ⟨n4, n5, n7, n8, n11⟩
  · go_enter Tryd.func53, Tryd.ntmps53
    go_wp2
    go_ret
    exact ⟨_, rfl, RowU.lit1 w _ p [] (by simp), b_alloc (b_alloc (Below.refl _ _) _) _⟩
  · go_enter Tryd.func53, Tryd.ntmps53
    go_wp2
    go_ret
    exact ⟨_, rfl, RowU.lit1 w _ n [p] (by simp), b_alloc (b_alloc (Below.refl _ _) _) _⟩
  · go_enter Tryd.func53, Tryd.ntmps53
    go_wp2
    go_ret
    exact ⟨_, rfl, RowU.lit1 w _ n [p] (by simp), b_alloc (b_alloc (Below.refl _ _) _) _⟩
  · go_enter Tryd.func53, Tryd.ntmps53
    go_wp2
    go_ret
    exact ⟨_, rfl, RowU.nil _ _, b_alloc (Below.refl _ _) _⟩
  · go_enter Tryd.func53, Tryd.ntmps53
    go_wp2
    go_ret
    exact ⟨_, rfl, RowU.nil _ _, b_alloc (Below.refl _ _) _⟩
  · rw [if_neg n4, if_neg (by omega), if_neg (by omega)]
    have m4 : (o == 4) = false := by simp [n4]
    have m5 : (o == 5) = false := by simp [n5]
    have m7 : (o == 7) = false := by simp [n7]
    have m8 : (o == 8) = false := by simp [n8]
    have m11 : (o == 11) = false := by simp [n11]
    clear n4 n5 n7 n8 n11
    go_enter Tryd.func53, Tryd.ntmps53
    go_wp2
    go_ret
    exact ⟨_, rfl, RowU.lit1 w _ n [] (by simp), b_alloc (b_alloc (Below.refl _ _) _) _⟩
end Go.Proofs.YtabeljpnmmfpgaaDoor
