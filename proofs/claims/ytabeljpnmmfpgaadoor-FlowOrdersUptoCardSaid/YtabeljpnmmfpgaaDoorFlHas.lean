/-
  has: does a list name a cell?
-/
import Derived.Test.YtabeljpnmmfpgaaDoorFlConv
namespace Go.Proofs.YtabeljpnmmfpgaaDoor
open Go.RowKit Go.MapKept Go.Maps Go.Sort
set_option linter.unusedVariables false
set_option linter.unusedSimpArgs false

set_option maxRecDepth 100000 in
set_option maxHeartbeats 2000000 in
theorem has_any (w : World) (A : Option Addr) (n c : Nat) (l : List Int) (x : Int) (hn : n = l.length) (h : AtsIn w A l) :
    Calls Tryd.prog 22 #[.slice A n c, .int .u16 x] w fun e w' => e = .returned (.bool (decide (x ∈ l))) ∧ w' = w := by
  have HA := Lib.hid h
  have HN := Lib.hid hn
  have hl : n ≤ 1000000000000 := by rw [hn]; exact h.len
  clear h hn
  go_enter Tryd.func22, Tryd.ntmps22
  go_wp2_with (fail)
  go_loopw [5] (fun i wr => ∃ k : Nat, k ≤ n ∧ i = .int .i64 k ∧ wr = w ∧ Hid (x ∉ l.take k)) (fun i _ => n - (intOf i).toNat)
  case atStart => exact ⟨0, Nat.zero_le _, rfl, rfl, Lib.hid (by simp)⟩
  case round =>
    obtain ⟨k, hk, rfl, rfl, hx⟩ := hrel
    by_cases hlt : k < n
    · have hlk : k < l.length := by rw [← HN.out]; exact hlt
      obtain ⟨b, off, rfl, c0⟩ := HA.out.at_ k hlk
      obtain ⟨y, hy⟩ : ∃ y, y = l[k] := ⟨_, rfl⟩
      rw [← hy] at c0
      have HY := Lib.hid hy
      have TK := Lib.hid (List.take_append_getElem hlk)
      clear hy
      by_cases e : y = x
      · have hm : decide (x ∈ l) = true := by
          rw [decide_eq_true_eq, ← e, HY.out]; exact List.getElem_mem hlk
        subst e
        go_wp2_with (fail)
        go_ret
        exact ⟨by rw [hm]; rfl, rfl⟩
      · have hx2 : Hid (x ∉ l.take (k + 1)) := fun hm => by
          have h1 := TK.out
          rw [← h1] at hm
          rcases List.mem_append.1 hm with hm | hm
          · exact hx.out hm
          · simp only [List.mem_singleton] at hm
            exact e (by rw [HY.out, hm])
        go_wp2_with (fail)
        go_roundw
        case rel => exact ⟨k + 1, hlt, by go_num, by first | rfl | trivial, hx2⟩
        case measure => first | (simp [intOf]; done) | (simp [intOf]; omega)
    · have hm : decide (x ∈ l) = false := by
        have h1 := hx.out
        rw [List.take_of_length_le (by have := HN.out; omega)] at h1
        simpa using h1
      go_wp2_with (fail)
      go_ret
      exact ⟨by rw [hm]; rfl, rfl⟩
end Go.Proofs.YtabeljpnmmfpgaaDoor
