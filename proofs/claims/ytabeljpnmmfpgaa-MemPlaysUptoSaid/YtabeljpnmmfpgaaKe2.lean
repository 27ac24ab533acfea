/-
  slices.Sort over bytes: a nil row, and a row of at most 16 different bytes.
-/
import Derived.Test.YtabeljpnmmfpgaaSo
namespace Go.Proofs.Ytabeljpnmmfpgaa
open Go.RowKit Go.MapKept
set_option linter.unusedVariables false
set_option linter.unusedSimpArgs false

set_option maxRecDepth 100000 in
set_option maxHeartbeats 4000000 in
theorem insertion_nil (w : World) : Calls Try.prog 62 #[.slice none 0 0, .int .i64 0, .int .i64 0] w fun e w' => e = .returned (.tuple #[]) ∧ w' = w := by
  go_enter Try.func62, Try.ntmps62
  go_wp2_with (fail)
  go_loopw [6] (fun p wr => p = .int .i64 1 ∧ wr = w) (fun _ _ => 0)
  case atStart => exact ⟨by go_num, rfl⟩
  case round =>
    obtain ⟨rfl, rfl⟩ := hrel
    go_wp2_with (fail)
    first | go_end0 | refine bodyPost_ret (results_none rfl _ _ _) rfl ?_
    exact ⟨rfl, rfl⟩

set_option maxRecDepth 100000 in
set_option maxHeartbeats 4000000 in
theorem pdq_nil (w : World) : Calls Try.prog 60 #[.slice none 0 0, .int .i64 0, .int .i64 0, .int .i64 0] w fun e w' => e = .returned (.tuple #[]) ∧ w' = w := by
  have ins := Lib.hid (insertion_nil w)
  go_enter Try.func60, Try.ntmps60
  go_wp2_with (fail)
  go_loopw [1, 2, 3, 8, 9] (fun p1 p2 p3 p8 p9 wr => p1 = .int .i64 0 ∧ p2 = .int .i64 0 ∧ p3 = .int .i64 0 ∧ p8 = .bool true ∧ p9 = .bool true ∧ wr = w) (fun _ _ _ _ _ _ => 0)
  case atStart => exact ⟨rfl, rfl, rfl, rfl, rfl, rfl⟩
  case round =>
    obtain ⟨rfl, rfl, rfl, rfl, rfl, rfl⟩ := hrel
    go_wp2_with (fail)
    refine ins.out.mono ?_
    rintro e w1 ⟨rfl, rfl⟩
    go_wp2_with (fail)
    first | go_end0 | refine bodyPost_ret (results_none rfl _ _ _) rfl ?_
    exact ⟨rfl, rfl⟩

set_option maxRecDepth 100000 in
set_option maxHeartbeats 4000000 in
theorem sort_nil (w : World) : Calls Try.prog 56 #[.slice none 0 0] w fun e w' => e = .returned (.tuple #[]) ∧ w' = w := by
  have bl : Calls Try.prog 61 #[.int .u64 0] w fun e w' => e = .returned (.int .i64 0) ∧ w' = w := bitsLen_any 0 w (by omega)
  have pq := pdq_nil w
  have BL := Lib.hid bl
  have PQ := Lib.hid pq
  clear bl pq
  go_enter Try.func56, Try.ntmps56
  go_wp2_with (first | (go_at_call 61; refine BL.out.mono ?_; rintro e w1 ⟨rfl, rfl⟩) | (go_at_call 60; refine PQ.out.mono ?_; rintro e w1 ⟨rfl, rfl⟩))
  first | go_end0 | refine bodyPost_ret (results_none rfl _ _ _) rfl ?_
  exact ⟨rfl, rfl⟩

theorem bitLen_lim : ∀ l : Fin 17, l.val ≤ 11 + Lib.bitLen l.val ∧ Lib.bitLen l.val ≤ 100 := by decide +kernel

set_option maxRecDepth 100000 in
set_option maxHeartbeats 4000000 in
theorem sort_any (w : World) (g n c : Nat) (d : Nat → Int) (h : Rw w w g n d) (hi : Inj n d) (h16 : n ≤ 16) :
    Calls Try.prog 56 #[.slice (some ⟨g, 0, none⟩) n c] w fun e w' => e = .returned (.tuple #[]) ∧ Hid (∃ d', Rw w w' g n d' ∧ Pm 0 n d d' ∧ Asc 0 n d') := by
  obtain ⟨L0, hL0⟩ : ∃ x, x = Lib.bitLen n := ⟨_, rfl⟩
  have hl := bitLen_lim ⟨n, by omega⟩
  have bl : Calls Try.prog 61 #[.int .u64 (n : Int)] w fun e w' => e = .returned (.int .i64 (L0 : Int)) ∧ w' = w := by rw [hL0]; exact bitsLen_any n w (by omega)
  have pq := pdq_any w g n c n L0 d h hi h16 (by rw [hL0]; exact hl.1) (by rw [hL0]; exact hl.2) (Nat.le_refl _) (by omega)
  have BL := Lib.hid bl
  have PQ := Lib.hid pq
  have wu : IntKind.u64.wrap (n : Int) = (n : Int) := by simp [IntKind.wrap, IntKind.bits, IntKind.signed]; omega
  clear bl pq hl hL0 h hi
  go_enter Try.func56, Try.ntmps56
  go_wp2_with (first | (go_at_call 61; refine BL.out.mono ?_; rintro e w1 ⟨rfl, rfl⟩) | (go_at_call 60; refine PQ.out.mono ?_; rintro e w1 ⟨rfl, hd⟩))
  first | go_end0 | refine bodyPost_ret (results_none rfl _ _ _) rfl ?_
  exact ⟨rfl, hd⟩
end Go.Proofs.Ytabeljpnmmfpgaa
