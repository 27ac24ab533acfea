/-
  math/bits.Len of a short length; the power of two behind a length.
-/
import Derived.Lib.Hide
import Derived.Lib.Strings
import Derived.Lib.Slices
import Derived.Lib.Small
import Derived.Lib.Walk
import Derived.Lib.BitFns
import Derived.Test.YtabeljpnmmfpgaaDoorFlSet
namespace Go.Proofs.YtabeljpnmmfpgaaDoor
open Go.RowKit Go.Maps Go.Sort Go.Shelf Go.MapKept Go.Proofs
set_option linter.unusedVariables false
set_option linter.unusedSimpArgs false

set_option maxRecDepth 100000 in
theorem tabSize : (Lib.len8tab.size : Int) = 256 := by
  have : Lib.len8tab.size = 256 := by decide
  omega
theorem bitLen_pow : ∀ y : Fin 256, y.val ≠ 0 → 2 ^ Lib.bitLen y.val ≤ 2 * y.val := by decide +kernel
theorem tabByte (x : Int) (h : x.toNat < Lib.len8tab.size) (h0 : 0 ≤ x) (h1 : x ≤ 255) : ∃ L : Nat, ((Lib.len8tab[x.toNat]'h).toNat : Int) = (L : Int) ∧ L ≤ 8 ∧ (x ≠ 0 → ((2 ^ L : Nat) : Int) ≤ 2 * x) := by
  refine ⟨Lib.bitLen x.toNat, ?_, Lib.bitLen_le8 ⟨x.toNat, by omega⟩, fun hx => ?_⟩
  · rw [← Lib.len8_of x h0 h1]
    unfold Lib.len8
    rw [getElem?_pos Lib.len8tab x.toNat h]
    rfl
  · have h2 := bitLen_pow ⟨x.toNat, by omega⟩ (by show x.toNat ≠ 0; omega)
    have h3 : 2 ^ Lib.bitLen x.toNat ≤ 2 * x.toNat := h2
    omega
theorem wrap_small (a : Nat) (h : a ≤ 100) : wrap64 (a : Int) = a := by unfold wrap64; omega
/-- How many bits a number has. -/
def LenIs (x : Int) (e : Ending) : Prop := ∃ L : Nat, e = .returned (.int .i64 (L : Int)) ∧ L ≤ 16 ∧ (x ≠ 0 → ((2 ^ L : Nat) : Int) ≤ 2 * x)

set_option maxHeartbeats 4000000 in
set_option maxRecDepth 100000 in
theorem len64_any (w : World) (x : Int) (h0 : 0 ≤ x) (h1 : x < 65536) : Calls Tryd.prog 80 #[.int .u64 x] w fun e w' => LenIs x e ∧ w' = w := by
  go_enter Tryd.func80, Tryd.ntmps80
  go_wp2
  all_goals first
    | (go_ret; refine ⟨?_, rfl⟩)
    | (exfalso; have hs := tabSize; omega)
  · have hs := tabSize
    obtain ⟨L, e1, e2, e4⟩ := tabByte (x / 256) (by omega) (by omega) (by omega)
    refine ⟨8 + L, ?_, by omega, fun hx => ?_⟩
    · have e3 : wrap64 (8 + (L : Int)) = ((8 + L : Nat) : Int) := by unfold wrap64; omega
      rw [e1, wrap_small L (by omega), e3]
      rfl
    · have h2 := e4 (by omega)
      have h3 : 2 ^ (8 + L) = 256 * 2 ^ L := by rw [Nat.pow_add]
      rw [h3]
      omega
  · have hs := tabSize
    obtain ⟨L, e1, e2, e4⟩ := tabByte x (by omega) (by omega) (by omega)
    refine ⟨L, ?_, by omega, e4⟩
    rw [e1, wrap_small L (by omega), wrap_small L (by omega)]
    rfl
theorem len_any (w : World) (x : Int) (h0 : 0 ≤ x) (h1 : x < 65536) : Calls Tryd.prog 58 #[.int .u64 x] w fun e w' => LenIs x e ∧ w' = w := by
  go_enter Tryd.func58, Tryd.ntmps58
  go_wp2_with (go_at_call 80; refine (len64_any _ _ h0 h1).mono ?_; rintro e w1 ⟨⟨L, rfl, hL, hp⟩, rfl⟩; have HP := Lib.hid hp; clear hp)
  go_ret
  exact ⟨⟨L, rfl, hL, HP.out⟩, rfl⟩

set_option maxHeartbeats 4000000 in
theorem pow_any (w : World) (l : Nat) (h8 : 1 ≤ l) (h16 : l < 65536) : Calls Tryd.prog 84 #[.int .i64 (l : Int)] w fun e w' => ∃ m : Nat, e = .returned (.int .u64 (m : Int)) ∧ 1 ≤ m ∧ m ≤ 2 * l ∧ w' = w := by
  have hb := Lib.hid (len_any w (l : Int) (by omega) (by omega))
  have wu : IntKind.u64.wrap (l : Int) = (l : Int) := by simp [IntKind.wrap, IntKind.bits, IntKind.signed]; omega
  go_enter Tryd.func84, Tryd.ntmps84
  go_wp2_with (fail)
  refine hb.out.mono ?_
  rintro e w1 ⟨⟨L, rfl, hL, hp⟩, rfl⟩
  have hp := hp (by omega)
  obtain ⟨m, hm⟩ : ∃ m, m = 2 ^ L := ⟨_, rfl⟩
  rw [← hm] at hp
  have HM := Lib.hid hm
  clear hm
  have hc : L = 0 ∨ L = 1 ∨ L = 2 ∨ L = 3 ∨ L = 4 ∨ L = 5 ∨ L = 6 ∨ L = 7 ∨ L = 8 ∨ L = 9 ∨ L = 10 ∨ L = 11 ∨ L = 12 ∨ L = 13 ∨ L = 14 ∨ L = 15 ∨ L = 16 := by omega
  rcases hc with rfl | rfl | rfl | rfl | rfl | rfl | rfl | rfl | rfl | rfl | rfl | rfl | rfl | rfl | rfl | rfl | rfl
  · have hm : m = 1 := HM.out
    subst hm
    clear HM
    go_wp2_with (fail)
    go_ret
    exact ⟨1, rfl, by omega, by omega, rfl⟩
  · have hm : m = 2 := HM.out
    subst hm
    clear HM
    go_wp2_with (fail)
    go_ret
    exact ⟨2, rfl, by omega, by omega, rfl⟩
  · have hm : m = 4 := HM.out
    subst hm
    clear HM
    go_wp2_with (fail)
    go_ret
    exact ⟨4, rfl, by omega, by omega, rfl⟩
  · have hm : m = 8 := HM.out
    subst hm
    clear HM
    go_wp2_with (fail)
    go_ret
    exact ⟨8, rfl, by omega, by omega, rfl⟩
  · have hm : m = 16 := HM.out
    subst hm
    clear HM
    go_wp2_with (fail)
    go_ret
    exact ⟨16, rfl, by omega, by omega, rfl⟩
  · have hm : m = 32 := HM.out
    subst hm
    clear HM
    go_wp2_with (fail)
    go_ret
    exact ⟨32, rfl, by omega, by omega, rfl⟩
  · have hm : m = 64 := HM.out
    subst hm
    clear HM
    go_wp2_with (fail)
    go_ret
    exact ⟨64, rfl, by omega, by omega, rfl⟩
  · have hm : m = 128 := HM.out
    subst hm
    clear HM
    go_wp2_with (fail)
    go_ret
    exact ⟨128, rfl, by omega, by omega, rfl⟩
  · have hm : m = 256 := HM.out
    subst hm
    clear HM
    go_wp2_with (fail)
    go_ret
    exact ⟨256, rfl, by omega, by omega, rfl⟩
  · have hm : m = 512 := HM.out
    subst hm
    clear HM
    go_wp2_with (fail)
    go_ret
    exact ⟨512, rfl, by omega, by omega, rfl⟩
  · have hm : m = 1024 := HM.out
    subst hm
    clear HM
    go_wp2_with (fail)
    go_ret
    exact ⟨1024, rfl, by omega, by omega, rfl⟩
  · have hm : m = 2048 := HM.out
    subst hm
    clear HM
    go_wp2_with (fail)
    go_ret
    exact ⟨2048, rfl, by omega, by omega, rfl⟩
  · have hm : m = 4096 := HM.out
    subst hm
    clear HM
    go_wp2_with (fail)
    go_ret
    exact ⟨4096, rfl, by omega, by omega, rfl⟩
  · have hm : m = 8192 := HM.out
    subst hm
    clear HM
    go_wp2_with (fail)
    go_ret
    exact ⟨8192, rfl, by omega, by omega, rfl⟩
  · have hm : m = 16384 := HM.out
    subst hm
    clear HM
    go_wp2_with (fail)
    go_ret
    exact ⟨16384, rfl, by omega, by omega, rfl⟩
  · have hm : m = 32768 := HM.out
    subst hm
    clear HM
    go_wp2_with (fail)
    go_ret
    exact ⟨32768, rfl, by omega, by omega, rfl⟩
  · have hm : m = 65536 := HM.out
    subst hm
    clear HM
    go_wp2_with (fail)
    go_ret
    exact ⟨65536, rfl, by omega, by omega, rfl⟩
end Go.Proofs.YtabeljpnmmfpgaaDoor
