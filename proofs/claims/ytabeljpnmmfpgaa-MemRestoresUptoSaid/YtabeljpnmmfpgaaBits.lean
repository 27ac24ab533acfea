/-
  Bytes and cells: '&', '|' and shifts by eight as arithmetic.
-/
import Derived.WalkKit
namespace Go.Proofs.Ytabeljpnmmfpgaa
open Go.RowKit
set_option linter.unusedVariables false

theorem nat_and_hi (p : Nat) (h : p < 65536) : p &&& 65280 = p / 256 * 256 := by
  have e1 : (65280 : Nat) = (2 ^ 8 - 1) <<< 8 := by decide
  have e2 : p / 256 * 256 = (p >>> 8) <<< 8 := by rw [Nat.shiftRight_eq_div_pow, Nat.shiftLeft_eq]
  rw [e1, e2]
  apply Nat.eq_of_testBit_eq
  intro i
  rw [Nat.testBit_and, Nat.testBit_shiftLeft, Nat.testBit_shiftLeft, Nat.testBit_two_pow_sub_one, Nat.testBit_shiftRight]
  by_cases h8 : 8 ≤ i
  · by_cases h16 : i < 16
    · simp [h8, show i - 8 < 8 by omega, show 8 + (i - 8) = i by omega]
    · have : p.testBit i = false := Nat.testBit_lt_two_pow (Nat.lt_of_lt_of_le h (by calc (65536 : Nat) = 2 ^ 16 := by decide
          _ ≤ 2 ^ i := Nat.pow_le_pow_right (by decide) (by omega)))
      simp [h8, this, show 8 + (i - 8) = i by omega]
  · simp [h8]

theorem u16_wrap (n : Int) : IntKind.u16.wrap n = n % 65536 := by simp [IntKind.wrap, IntKind.bits, IntKind.signed]
theorem wraps_u16 (n : Int) (h₀ : 0 ≤ n) (h₁ : n < 2 ^ 16) : IntKind.u16.wrap n = n := by
  have : IntKind.u16.wrap n = n % 65536 := by simp [IntKind.wrap, IntKind.bits, IntKind.signed]
  rw [this]; omega

theorem u16_and_hi {p : Int} (h0 : 0 ≤ p) (h1 : p < 65536) : bits .and .u16 p 65280 = p / 256 * 256 := by
  obtain ⟨n, rfl⟩ := Int.eq_ofNat_of_zero_le h0
  have := (bits_nat .u16 16 (by decide) wraps_u16 n 65280 (by omega) (by decide)).1
  rw [show ((65280 : Nat) : Int) = 65280 from rfl] at this
  rw [this, nat_and_hi n (by omega)]
  omega
theorem u16_and_lo {p : Int} (h0 : 0 ≤ p) (h1 : p < 65536) : bits .and .u16 p 255 = p % 256 := by
  have := bits_mask .u16 16 (by decide) wraps_u16 8 (by decide) p h0 (by omega)
  simpa using this
theorem u16_or_lo {x y : Int} (h0 : 0 ≤ x) (h1 : x < 65536) (hx : x % 256 = 0) (h2 : 0 ≤ y) (h3 : y < 256) : bits .or .u16 x y = x + y := by
  exact bits_join .u16 16 (by decide) wraps_u16 8 x y h0 (by simpa using hx) (by omega) h2 (by omega) (by omega)
theorem u16_or_comm {x y : Int} (h0 : 0 ≤ x) (h1 : x < 65536) (h2 : 0 ≤ y) (h3 : y < 65536) : bits .or .u16 x y = bits .or .u16 y x := by
  obtain ⟨a, rfl⟩ := Int.eq_ofNat_of_zero_le h0
  obtain ⟨b, rfl⟩ := Int.eq_ofNat_of_zero_le h2
  rw [(bits_nat .u16 16 (by decide) wraps_u16 a b (by omega) (by omega)).2, (bits_nat .u16 16 (by decide) wraps_u16 b a (by omega) (by omega)).2, Nat.or_comm]
theorem u16_or_hi {x y : Int} (h0 : 0 ≤ x) (h1 : x < 256) (h2 : 0 ≤ y) (h3 : y < 65536) (hy : y % 256 = 0) : bits .or .u16 x y = x + y := by
  rw [u16_or_comm h0 (by omega) h2 h3, u16_or_lo h2 h3 hy h0 h1]; omega
end Go.Proofs.Ytabeljpnmmfpgaa
