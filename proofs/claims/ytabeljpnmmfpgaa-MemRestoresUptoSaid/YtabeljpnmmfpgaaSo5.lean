/-
  Sorting a row of bytes, 5: math/bits.Len of at most 16; the shuffle.
-/
import Derived.Test.YtabeljpnmmfpgaaSo4
import Derived.Lib.BitFns
namespace Go.Proofs.Ytabeljpnmmfpgaa
open Go.RowKit Go.MapKept
set_option linter.unusedVariables false
set_option linter.unusedSimpArgs false

set_option maxRecDepth 100000 in
theorem len64_0 (w : World) : Calls Try.prog 72 #[.int .u64 0] w fun e w' => e = .returned (.int .i64 0) ∧ w' = w := by
  go_enter Try.func72, Try.ntmps72
  have e8 : Lib.len8 0 = 0 := by decide +kernel
  go_wp2
  go_ret
  exact ⟨rfl, rfl⟩
theorem len_0 (w : World) : Calls Try.prog 61 #[.int .u64 0] w fun e w' => e = .returned (.int .i64 0) ∧ w' = w := by
  go_enter Try.func61, Try.ntmps61
  go_wp2_with (go_at_call 72; refine (len64_0 _).mono ?_; rintro e w1 ⟨rfl, rfl⟩)
  go_ret
  exact ⟨rfl, rfl⟩
set_option maxRecDepth 100000 in
theorem len64_1 (w : World) : Calls Try.prog 72 #[.int .u64 1] w fun e w' => e = .returned (.int .i64 1) ∧ w' = w := by
  go_enter Try.func72, Try.ntmps72
  have e8 : Lib.len8 1 = 1 := by decide +kernel
  go_wp2
  go_ret
  exact ⟨rfl, rfl⟩
theorem len_1 (w : World) : Calls Try.prog 61 #[.int .u64 1] w fun e w' => e = .returned (.int .i64 1) ∧ w' = w := by
  go_enter Try.func61, Try.ntmps61
  go_wp2_with (go_at_call 72; refine (len64_1 _).mono ?_; rintro e w1 ⟨rfl, rfl⟩)
  go_ret
  exact ⟨rfl, rfl⟩
set_option maxRecDepth 100000 in
theorem len64_2 (w : World) : Calls Try.prog 72 #[.int .u64 2] w fun e w' => e = .returned (.int .i64 2) ∧ w' = w := by
  go_enter Try.func72, Try.ntmps72
  have e8 : Lib.len8 2 = 2 := by decide +kernel
  go_wp2
  go_ret
  exact ⟨rfl, rfl⟩
theorem len_2 (w : World) : Calls Try.prog 61 #[.int .u64 2] w fun e w' => e = .returned (.int .i64 2) ∧ w' = w := by
  go_enter Try.func61, Try.ntmps61
  go_wp2_with (go_at_call 72; refine (len64_2 _).mono ?_; rintro e w1 ⟨rfl, rfl⟩)
  go_ret
  exact ⟨rfl, rfl⟩
set_option maxRecDepth 100000 in
theorem len64_3 (w : World) : Calls Try.prog 72 #[.int .u64 3] w fun e w' => e = .returned (.int .i64 2) ∧ w' = w := by
  go_enter Try.func72, Try.ntmps72
  have e8 : Lib.len8 3 = 2 := by decide +kernel
  go_wp2
  go_ret
  exact ⟨rfl, rfl⟩
theorem len_3 (w : World) : Calls Try.prog 61 #[.int .u64 3] w fun e w' => e = .returned (.int .i64 2) ∧ w' = w := by
  go_enter Try.func61, Try.ntmps61
  go_wp2_with (go_at_call 72; refine (len64_3 _).mono ?_; rintro e w1 ⟨rfl, rfl⟩)
  go_ret
  exact ⟨rfl, rfl⟩
set_option maxRecDepth 100000 in
theorem len64_4 (w : World) : Calls Try.prog 72 #[.int .u64 4] w fun e w' => e = .returned (.int .i64 3) ∧ w' = w := by
  go_enter Try.func72, Try.ntmps72
  have e8 : Lib.len8 4 = 3 := by decide +kernel
  go_wp2
  go_ret
  exact ⟨rfl, rfl⟩
theorem len_4 (w : World) : Calls Try.prog 61 #[.int .u64 4] w fun e w' => e = .returned (.int .i64 3) ∧ w' = w := by
  go_enter Try.func61, Try.ntmps61
  go_wp2_with (go_at_call 72; refine (len64_4 _).mono ?_; rintro e w1 ⟨rfl, rfl⟩)
  go_ret
  exact ⟨rfl, rfl⟩
set_option maxRecDepth 100000 in
theorem len64_5 (w : World) : Calls Try.prog 72 #[.int .u64 5] w fun e w' => e = .returned (.int .i64 3) ∧ w' = w := by
  go_enter Try.func72, Try.ntmps72
  have e8 : Lib.len8 5 = 3 := by decide +kernel
  go_wp2
  go_ret
  exact ⟨rfl, rfl⟩
theorem len_5 (w : World) : Calls Try.prog 61 #[.int .u64 5] w fun e w' => e = .returned (.int .i64 3) ∧ w' = w := by
  go_enter Try.func61, Try.ntmps61
  go_wp2_with (go_at_call 72; refine (len64_5 _).mono ?_; rintro e w1 ⟨rfl, rfl⟩)
  go_ret
  exact ⟨rfl, rfl⟩
set_option maxRecDepth 100000 in
theorem len64_6 (w : World) : Calls Try.prog 72 #[.int .u64 6] w fun e w' => e = .returned (.int .i64 3) ∧ w' = w := by
  go_enter Try.func72, Try.ntmps72
  have e8 : Lib.len8 6 = 3 := by decide +kernel
  go_wp2
  go_ret
  exact ⟨rfl, rfl⟩
theorem len_6 (w : World) : Calls Try.prog 61 #[.int .u64 6] w fun e w' => e = .returned (.int .i64 3) ∧ w' = w := by
  go_enter Try.func61, Try.ntmps61
  go_wp2_with (go_at_call 72; refine (len64_6 _).mono ?_; rintro e w1 ⟨rfl, rfl⟩)
  go_ret
  exact ⟨rfl, rfl⟩
set_option maxRecDepth 100000 in
theorem len64_7 (w : World) : Calls Try.prog 72 #[.int .u64 7] w fun e w' => e = .returned (.int .i64 3) ∧ w' = w := by
  go_enter Try.func72, Try.ntmps72
  have e8 : Lib.len8 7 = 3 := by decide +kernel
  go_wp2
  go_ret
  exact ⟨rfl, rfl⟩
theorem len_7 (w : World) : Calls Try.prog 61 #[.int .u64 7] w fun e w' => e = .returned (.int .i64 3) ∧ w' = w := by
  go_enter Try.func61, Try.ntmps61
  go_wp2_with (go_at_call 72; refine (len64_7 _).mono ?_; rintro e w1 ⟨rfl, rfl⟩)
  go_ret
  exact ⟨rfl, rfl⟩
set_option maxRecDepth 100000 in
theorem len64_8 (w : World) : Calls Try.prog 72 #[.int .u64 8] w fun e w' => e = .returned (.int .i64 4) ∧ w' = w := by
  go_enter Try.func72, Try.ntmps72
  have e8 : Lib.len8 8 = 4 := by decide +kernel
  go_wp2
  go_ret
  exact ⟨rfl, rfl⟩
theorem len_8 (w : World) : Calls Try.prog 61 #[.int .u64 8] w fun e w' => e = .returned (.int .i64 4) ∧ w' = w := by
  go_enter Try.func61, Try.ntmps61
  go_wp2_with (go_at_call 72; refine (len64_8 _).mono ?_; rintro e w1 ⟨rfl, rfl⟩)
  go_ret
  exact ⟨rfl, rfl⟩
set_option maxRecDepth 100000 in
theorem len64_9 (w : World) : Calls Try.prog 72 #[.int .u64 9] w fun e w' => e = .returned (.int .i64 4) ∧ w' = w := by
  go_enter Try.func72, Try.ntmps72
  have e8 : Lib.len8 9 = 4 := by decide +kernel
  go_wp2
  go_ret
  exact ⟨rfl, rfl⟩
theorem len_9 (w : World) : Calls Try.prog 61 #[.int .u64 9] w fun e w' => e = .returned (.int .i64 4) ∧ w' = w := by
  go_enter Try.func61, Try.ntmps61
  go_wp2_with (go_at_call 72; refine (len64_9 _).mono ?_; rintro e w1 ⟨rfl, rfl⟩)
  go_ret
  exact ⟨rfl, rfl⟩
set_option maxRecDepth 100000 in
theorem len64_10 (w : World) : Calls Try.prog 72 #[.int .u64 10] w fun e w' => e = .returned (.int .i64 4) ∧ w' = w := by
  go_enter Try.func72, Try.ntmps72
  have e8 : Lib.len8 10 = 4 := by decide +kernel
  go_wp2
  go_ret
  exact ⟨rfl, rfl⟩
theorem len_10 (w : World) : Calls Try.prog 61 #[.int .u64 10] w fun e w' => e = .returned (.int .i64 4) ∧ w' = w := by
  go_enter Try.func61, Try.ntmps61
  go_wp2_with (go_at_call 72; refine (len64_10 _).mono ?_; rintro e w1 ⟨rfl, rfl⟩)
  go_ret
  exact ⟨rfl, rfl⟩
set_option maxRecDepth 100000 in
theorem len64_11 (w : World) : Calls Try.prog 72 #[.int .u64 11] w fun e w' => e = .returned (.int .i64 4) ∧ w' = w := by
  go_enter Try.func72, Try.ntmps72
  have e8 : Lib.len8 11 = 4 := by decide +kernel
  go_wp2
  go_ret
  exact ⟨rfl, rfl⟩
theorem len_11 (w : World) : Calls Try.prog 61 #[.int .u64 11] w fun e w' => e = .returned (.int .i64 4) ∧ w' = w := by
  go_enter Try.func61, Try.ntmps61
  go_wp2_with (go_at_call 72; refine (len64_11 _).mono ?_; rintro e w1 ⟨rfl, rfl⟩)
  go_ret
  exact ⟨rfl, rfl⟩
set_option maxRecDepth 100000 in
theorem len64_12 (w : World) : Calls Try.prog 72 #[.int .u64 12] w fun e w' => e = .returned (.int .i64 4) ∧ w' = w := by
  go_enter Try.func72, Try.ntmps72
  have e8 : Lib.len8 12 = 4 := by decide +kernel
  go_wp2
  go_ret
  exact ⟨rfl, rfl⟩
theorem len_12 (w : World) : Calls Try.prog 61 #[.int .u64 12] w fun e w' => e = .returned (.int .i64 4) ∧ w' = w := by
  go_enter Try.func61, Try.ntmps61
  go_wp2_with (go_at_call 72; refine (len64_12 _).mono ?_; rintro e w1 ⟨rfl, rfl⟩)
  go_ret
  exact ⟨rfl, rfl⟩
set_option maxRecDepth 100000 in
theorem len64_13 (w : World) : Calls Try.prog 72 #[.int .u64 13] w fun e w' => e = .returned (.int .i64 4) ∧ w' = w := by
  go_enter Try.func72, Try.ntmps72
  have e8 : Lib.len8 13 = 4 := by decide +kernel
  go_wp2
  go_ret
  exact ⟨rfl, rfl⟩
theorem len_13 (w : World) : Calls Try.prog 61 #[.int .u64 13] w fun e w' => e = .returned (.int .i64 4) ∧ w' = w := by
  go_enter Try.func61, Try.ntmps61
  go_wp2_with (go_at_call 72; refine (len64_13 _).mono ?_; rintro e w1 ⟨rfl, rfl⟩)
  go_ret
  exact ⟨rfl, rfl⟩
set_option maxRecDepth 100000 in
theorem len64_14 (w : World) : Calls Try.prog 72 #[.int .u64 14] w fun e w' => e = .returned (.int .i64 4) ∧ w' = w := by
  go_enter Try.func72, Try.ntmps72
  have e8 : Lib.len8 14 = 4 := by decide +kernel
  go_wp2
  go_ret
  exact ⟨rfl, rfl⟩
theorem len_14 (w : World) : Calls Try.prog 61 #[.int .u64 14] w fun e w' => e = .returned (.int .i64 4) ∧ w' = w := by
  go_enter Try.func61, Try.ntmps61
  go_wp2_with (go_at_call 72; refine (len64_14 _).mono ?_; rintro e w1 ⟨rfl, rfl⟩)
  go_ret
  exact ⟨rfl, rfl⟩
set_option maxRecDepth 100000 in
theorem len64_15 (w : World) : Calls Try.prog 72 #[.int .u64 15] w fun e w' => e = .returned (.int .i64 4) ∧ w' = w := by
  go_enter Try.func72, Try.ntmps72
  have e8 : Lib.len8 15 = 4 := by decide +kernel
  go_wp2
  go_ret
  exact ⟨rfl, rfl⟩
theorem len_15 (w : World) : Calls Try.prog 61 #[.int .u64 15] w fun e w' => e = .returned (.int .i64 4) ∧ w' = w := by
  go_enter Try.func61, Try.ntmps61
  go_wp2_with (go_at_call 72; refine (len64_15 _).mono ?_; rintro e w1 ⟨rfl, rfl⟩)
  go_ret
  exact ⟨rfl, rfl⟩
set_option maxRecDepth 100000 in
theorem len64_16 (w : World) : Calls Try.prog 72 #[.int .u64 16] w fun e w' => e = .returned (.int .i64 5) ∧ w' = w := by
  go_enter Try.func72, Try.ntmps72
  have e8 : Lib.len8 16 = 5 := by decide +kernel
  go_wp2
  go_ret
  exact ⟨rfl, rfl⟩
theorem len_16 (w : World) : Calls Try.prog 61 #[.int .u64 16] w fun e w' => e = .returned (.int .i64 5) ∧ w' = w := by
  go_enter Try.func61, Try.ntmps61
  go_wp2_with (go_at_call 72; refine (len64_16 _).mono ?_; rintro e w1 ⟨rfl, rfl⟩)
  go_ret
  exact ⟨rfl, rfl⟩
theorem bitsLen_any (n : Nat) (w : World) (h : n ≤ 16) : Calls Try.prog 61 #[.int .u64 (n : Int)] w fun e w' => e = .returned (.int .i64 (Lib.bitLen n)) ∧ w' = w := by
  have hc : n = 0 ∨ n = 1 ∨ n = 2 ∨ n = 3 ∨ n = 4 ∨ n = 5 ∨ n = 6 ∨ n = 7 ∨ n = 8 ∨ n = 9 ∨ n = 10 ∨ n = 11 ∨ n = 12 ∨ n = 13 ∨ n = 14 ∨ n = 15 ∨ n = 16 := by omega
  rcases hc with rfl | rfl | rfl | rfl | rfl | rfl | rfl | rfl | rfl | rfl | rfl | rfl | rfl | rfl | rfl | rfl | rfl
  · have e : Lib.bitLen 0 = 0 := by decide +kernel
    rw [e]; exact len_0 w
  · have e : Lib.bitLen 1 = 1 := by decide +kernel
    rw [e]; exact len_1 w
  · have e : Lib.bitLen 2 = 2 := by decide +kernel
    rw [e]; exact len_2 w
  · have e : Lib.bitLen 3 = 2 := by decide +kernel
    rw [e]; exact len_3 w
  · have e : Lib.bitLen 4 = 3 := by decide +kernel
    rw [e]; exact len_4 w
  · have e : Lib.bitLen 5 = 3 := by decide +kernel
    rw [e]; exact len_5 w
  · have e : Lib.bitLen 6 = 3 := by decide +kernel
    rw [e]; exact len_6 w
  · have e : Lib.bitLen 7 = 3 := by decide +kernel
    rw [e]; exact len_7 w
  · have e : Lib.bitLen 8 = 4 := by decide +kernel
    rw [e]; exact len_8 w
  · have e : Lib.bitLen 9 = 4 := by decide +kernel
    rw [e]; exact len_9 w
  · have e : Lib.bitLen 10 = 4 := by decide +kernel
    rw [e]; exact len_10 w
  · have e : Lib.bitLen 11 = 4 := by decide +kernel
    rw [e]; exact len_11 w
  · have e : Lib.bitLen 12 = 4 := by decide +kernel
    rw [e]; exact len_12 w
  · have e : Lib.bitLen 13 = 4 := by decide +kernel
    rw [e]; exact len_13 w
  · have e : Lib.bitLen 14 = 4 := by decide +kernel
    rw [e]; exact len_14 w
  · have e : Lib.bitLen 15 = 4 := by decide +kernel
    rw [e]; exact len_15 w
  · have e : Lib.bitLen 16 = 5 := by decide +kernel
    rw [e]; exact len_16 w

theorem xorN (a b : Int) (h1 : 0 ≤ a) (h2 : a < 18446744073709551616) (h3 : 0 ≤ b) (h4 : b < 18446744073709551616) : ∃ y : Nat, bits .xor .u64 a b = (y : Int) ∧ y < 18446744073709551616 :=
  ⟨a.toNat ^^^ b.toNat, u64_xor a b h1 h2 h3 h4, Nat.xor_lt_two_pow (n := 64) (by omega) (by omega)⟩
theorem andN (a : Int) (m : Nat) (h1 : 0 ≤ a) (h2 : a < 18446744073709551616) (h4 : m < 18446744073709551616) : ∃ y : Nat, bits .and .u64 a (m : Int) = (y : Int) ∧ y ≤ m :=
  ⟨a.toNat &&& m, by rw [u64_and a m h1 h2 (by omega) (by omega), Int.toNat_natCast], Nat.and_le_right⟩
theorem wrapU (a : Int) : 0 ≤ IntKind.u64.wrap a ∧ IntKind.u64.wrap a < 18446744073709551616 := by
  have e : IntKind.u64.wrap a = a % 18446744073709551616 := by simp [IntKind.wrap, IntKind.bits, IntKind.signed]
  rw [e]; omega

set_option maxRecDepth 100000 in
set_option maxHeartbeats 4000000 in
theorem next_any (w : World) (s x : Nat) (h : w.heap[s]? = some (.cells #[.int .u64 (x : Int)] 122 (0, 0))) (h1 : x < 18446744073709551616) :
    Calls Try.prog 75 #[.pointer (some ⟨s, 0, none⟩)] w fun e w' => ∃ y : Nat, e = .returned (.int .u64 (y : Int)) ∧ y < 18446744073709551616 ∧ w'.heap[s]? = some (.cells #[.int .u64 (y : Int)] 122 (0, 0)) ∧ Upd w w' (fun i => i = s) := by
  have c0 : w.cell? ⟨s, 0, none⟩ = some (.int .u64 (x : Int)) := by rw [cell_of h]; rfl
  have f0 : w.frozen? ⟨s, 0, none⟩ = false := free_of h 0
  have H := Lib.hid h
  obtain ⟨v1, e1, l1⟩ := xorN (x : Int) (IntKind.u64.wrap ((x : Int) * 8192)) (by omega) (by omega) (wrapU _).1 (wrapU _).2
  obtain ⟨v2, e2, l2⟩ := xorN (v1 : Int) ((v1 : Int) / 128) (by omega) (by omega) (by omega) (by omega)
  obtain ⟨v3, e3, l3⟩ := xorN (v2 : Int) (IntKind.u64.wrap ((v2 : Int) * 131072)) (by omega) (by omega) (wrapU _).1 (wrapU _).2
  have E1 := Lib.hid e1; have E2 := Lib.hid e2; have E3 := Lib.hid e3
  have fin : Hid (∀ W', W' = (((w.setCell ⟨s, 0, none⟩ (.int .u64 (v1 : Int))).setCell ⟨s, 0, none⟩ (.int .u64 (v2 : Int))).setCell ⟨s, 0, none⟩ (.int .u64 (v3 : Int))).drew.drew.drew → W'.heap[s]? = some (.cells #[.int .u64 (v3 : Int)] 122 (0, 0)) ∧ Upd w W' (fun i => i = s)) := by
    rintro W' rfl
    refine ⟨?_, ((((((Upd.refl w (fun i => i = s)).setCell (p := ⟨s, 0, none⟩) (fun _ => rfl) _).setCell (p := ⟨s, 0, none⟩) (fun _ => rfl) _).setCell (p := ⟨s, 0, none⟩) (fun _ => rfl) _).drew).drew).drew⟩
    exact heap_set_cell (heap_set_cell (heap_set_cell h 0 _) 0 _) 0 _
  have c3 : (((w.setCell ⟨s, 0, none⟩ (.int .u64 (v1 : Int))).setCell ⟨s, 0, none⟩ (.int .u64 (v2 : Int))).setCell ⟨s, 0, none⟩ (.int .u64 (v3 : Int))).cell? ⟨s, 0, none⟩ = some (.int .u64 (v3 : Int)) := by
    rw [cell_of (heap_set_cell (heap_set_cell (heap_set_cell h 0 _) 0 _) 0 _)]; rfl
  clear h e1 e2 e3
  go_enter Try.func75, Try.ntmps75
  go_wp2_with (fail)
  go_region
  all_goals
    rw [E1.out]
    go_wp2_with (fail)
    go_region
    all_goals
      rw [E2.out]
      go_wp2_with (fail)
      go_region
      all_goals
        rw [E3.out]
        go_wp2_with (fail)
        go_ret
        exact ⟨v3, rfl, l3, fin.out _ rfl⟩

theorem bitLen_small : ∀ l : Fin 17, 8 ≤ l.val → (l.val < 16 ∧ Lib.bitLen l.val = 4) ∨ (l.val = 16 ∧ Lib.bitLen l.val = 5) := by decide +kernel

theorem pow_any (w : World) (l : Nat) (h8 : 8 ≤ l) (h16 : l ≤ 16) : Calls Try.prog 74 #[.int .i64 (l : Int)] w fun e w' => ∃ m : Nat, e = .returned (.int .u64 (m : Int)) ∧ 1 ≤ m ∧ m ≤ 2 * l ∧ w' = w := by
  have hb := Lib.hid (bitsLen_any l w (by omega))
  have wu : IntKind.u64.wrap (l : Int) = (l : Int) := by simp [IntKind.wrap, IntKind.bits, IntKind.signed]; omega
  rcases bitLen_small ⟨l, by omega⟩ h8 with ⟨h1, h2⟩ | ⟨h1, h2⟩
  · have H2 := Lib.hid h2
    clear h2
    go_enter Try.func74, Try.ntmps74
    go_wp2_with (go_at_call 61; refine hb.out.mono ?_; rintro e w1 ⟨rfl, rfl⟩; dsimp only at H2; rw [H2.out])
    go_ret
    exact ⟨16, rfl, by omega, by omega, rfl⟩
  · have H2 := Lib.hid h2
    clear h2
    go_enter Try.func74, Try.ntmps74
    go_wp2_with (go_at_call 61; refine hb.out.mono ?_; rintro e w1 ⟨rfl, rfl⟩; dsimp only at H2; rw [H2.out])
    go_ret
    exact ⟨32, rfl, by omega, by omega, rfl⟩
end Go.Proofs.Ytabeljpnmmfpgaa
