/-
  Sorting a row of bytes, 3: the look whether it is sorted; the partition.
-/
import Derived.Test.YtabeljpnmmfpgaaSo2
import Derived.Deep.CutBlock
namespace Go.Proofs.Ytabeljpnmmfpgaa
open Go.RowKit Go.MapKept
set_option linter.unusedVariables false
set_option linter.unusedSimpArgs false

theorem Asc.more {a i : Nat} {d : Nat → Int} (h : Asc a i d) (ha : a < i) (hl : d (i - 1) ≤ d i) : Asc a (i + 1) d := fun x y hx hxy hy => by
  by_cases e : y = i
  · by_cases e2 : x = i
    · rw [e, e2]; exact Int.le_refl _
    · rw [e]; exact Int.le_trans (h x (i - 1) hx (by omega) (by omega)) hl
  · exact h x y hx hxy (by omega)

set_option maxRecDepth 100000 in
set_option maxHeartbeats 4000000 in
theorem partialIns_any (w : World) (g n c a b : Nat) (d : Nat → Int) (h : Rw w w g n d) (hab : a < b) (hl50 : b < a + 50) (hb : b ≤ n) (hn : n ≤ 1000000000) :
    Calls Try.prog 67 #[.slice (some ⟨g, 0, none⟩) n c, .int .i64 a, .int .i64 b] w fun e w' => ∃ r : Bool, e = .returned (.bool r) ∧ Hid (r = true → Asc a b d) ∧ Hid (Rw w w' g n d) := by
  have H := Lib.hid h
  clear h
  go_enter Try.func67, Try.ntmps67
  go_wp2_with (fail)
  go_loopw [7, 8] (fun p q wr => p = .int .i64 ((a : Int) + 1) ∧ q = .int .i64 0 ∧ Hid (Rw w wr g n d)) (fun _ _ _ => 0)
  case atStart => exact ⟨rfl, rfl, H⟩
  case round =>
    obtain ⟨rfl, rfl, H0⟩ := hrel
    go_wp2_with (fail)
    go_loopw [7] (fun p wr => ∃ i : Nat, p = .int .i64 i ∧ a + 1 ≤ i ∧ i ≤ b ∧ Hid (Rw w wr g n d ∧ Asc a i d)) (fun p _ => b - (intOf p).toNat)
    case atStart => exact ⟨a + 1, by go_num, by omega, by omega, H0.out, asc_one a d⟩
    case round =>
      obtain ⟨i, rfl, hi1, hi2, hrel⟩ := hrel
      by_cases hlt : i < b
      · obtain ⟨m, rfl⟩ : ∃ m, i = m + 1 := ⟨i - 1, by omega⟩
        have c0 := hrel.out.1.cell (j := m + 1) (by omega)
        have c1 := hrel.out.1.cell (j := m) (by omega)
        obtain ⟨x, hx⟩ : ∃ x, x = d (m + 1) := ⟨_, rfl⟩
        obtain ⟨y, hy⟩ : ∃ y, y = d m := ⟨_, rfl⟩
        rw [← hx] at c0; rw [← hy] at c1
        have HX := Lib.hid hx; have HY := Lib.hid hy
        have dg : decide ((m : Int) + 1 < (b : Int)) = true := by simp; omega
        have b0 : (0 : Int) ≤ (m : Int) + 1 := by omega
        have b1 : (m : Int) + 1 < (n : Int) := by omega
        have b2 : (m : Int) < (n : Int) := by omega
        have wm := wrapN m (by omega)
        clear hx hy
        by_cases hl : x < y
        · have d1 : decide (x < y) = true := by simpa using hl
          have dz : (((m : Int) + 1) == (b : Int)) = false := by simp; omega
          have dl : decide ((b : Int) - (a : Int) < 50) = true := by simp; omega
          have out : Hid (∀ nq, Rw w (wr.drewN nq) g n d) := fun nq => hrel.out.1.quiet ⟨nq, rfl⟩
          go_wp2_with (fail)
          go_big_quiet (first | (go_at_call 68; refine Calls.quiet_of_same (less_any _ _ _)))
          go_wp2_with (fail)
          go_ret
          exact ⟨false, rfl, (show _ → _ from fun h => by cases h), out.out _⟩
        · have d1 : decide (x < y) = false := by simpa using hl
          have nxt : Hid (∀ nq, Rw w (wr.drewN nq) g n d ∧ Asc a (m + 1 + 1) d) := fun nq => ⟨hrel.out.1.quiet ⟨nq, rfl⟩, hrel.out.2.more (by omega) (by rw [Nat.add_sub_cancel, ← HX.out, ← HY.out]; omega)⟩
          go_wp2_with (fail)
          go_big_quiet (first | (go_at_call 68; refine Calls.quiet_of_same (less_any _ _ _)))
          go_wp2_with (fail)
          go_roundw
          case rel => exact ⟨m + 1 + 1, by go_num, by omega, by omega, nxt.out _⟩
          case measure => first | (simp [intOf]; done) | (simp [intOf]; omega)
      · have hke : i = b := by omega
        have out : Hid (∀ nq, Rw w (wr.drewN nq) g n d) := fun nq => hrel.out.1.quiet ⟨nq, rfl⟩
        have asc : Hid (Asc a b d) := hke ▸ hrel.out.2
        subst hke
        clear hrel hi2
        go_wp2_with (fail)
        go_big_quiet (first | (go_at_call 68; refine Calls.quiet_of_same (less_any _ _ _)))
        go_wp2_with (fail)
        go_ret
        exact ⟨true, rfl, (show _ → _ from fun _ => asc.out), out.out _⟩
end Go.Proofs.Ytabeljpnmmfpgaa
