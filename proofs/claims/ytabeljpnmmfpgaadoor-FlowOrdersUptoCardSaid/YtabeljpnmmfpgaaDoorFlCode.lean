/-
  Code: a row of bytes that is read; the cell at an address.
-/
import Derived.Lib.Hide
import Derived.BigRegion
import Derived.BigQuiet
import Derived.Deep.QuietTactic
import Derived.Deep.RegionHeld3
import Derived.Deep.DeepCutAuto
import Derived.Deep.CutBlock
import Derived.Laws.BitsLemmas
import Derived.Test.YtabeljpnmmfpgaaDoorFlSort
namespace Go.Proofs.YtabeljpnmmfpgaaDoor
open Go.RowKit Go.MapKept
set_option linter.unusedVariables false
set_option linter.unusedSimpArgs false

/-- A row of bytes that is read. -/
structure CodeIn (w : World) (A : Option Addr) (code : List Int) : Prop where
  byte : ∀ j, 0 ≤ code.getD j 0 ∧ code.getD j 0 < 256
  len : code.length ≤ 1000000000000
  at_ : ∀ j, j < code.length → ∃ ad, A = some ad ∧ w.cell? (ad.add j) = some (.int .u8 (code.getD j 0))
theorem CodeIn.below {w W : World} {A : Option Addr} {code : List Int} (h : CodeIn w A code) (hb : Below w.heap.size w W) : CodeIn W A code :=
  ⟨h.byte, h.len, fun j hj => by
    obtain ⟨ad, e, hc⟩ := h.at_ j hj
    exact ⟨ad, e, (hb.cell (World.block_lt_of_cell? w _ hc)).trans hc⟩⟩
theorem CodeIn.upd {w W : World} {A : Option Addr} {code : List Int} {S : Nat → Prop} (h : CodeIn w A code) (hu : Upd w W S) (hs : ∀ ad, A = some ad → ¬ S ad.block) : CodeIn W A code :=
  ⟨h.byte, h.len, fun j hj => by
    obtain ⟨ad, e, hc⟩ := h.at_ j hj
    refine ⟨ad, e, ?_⟩
    have hlt := World.block_lt_of_cell? w _ hc
    have hb : (ad.add j).block = ad.block := by unfold Addr.add; split <;> rfl
    have := hu.block (ad.add j).block hlt (by rw [hb]; exact hs ad e)
    rw [← hc]
    unfold World.cell?
    rw [this]⟩

/-- The cell at an address. -/
def cellOf (code : List Int) (a : Int) : Option Int := if a % 2 = 0 ∧ a + 1 < (code.length : Int) then some (code.getD a.toNat 0 + 256 * code.getD (a.toNat + 1) 0) else none

theorem or_bytes (x y : Int) (hx : 0 ≤ x ∧ x < 256) (hy : 0 ≤ y ∧ y < 256) : bits .or .u16 x (y * 256) = x + 256 * y := by
  obtain ⟨a, rfl⟩ := Int.eq_ofNat_of_zero_le hx.1
  obtain ⟨b, rfl⟩ := Int.eq_ofNat_of_zero_le hy.1
  have hk : ∀ n : Int, 0 ≤ n → n < 2 ^ 16 → IntKind.u16.wrap n = n := fun n h0 h1 => by simp [IntKind.wrap, IntKind.bits, IntKind.signed]; omega
  have e : ((b : Int) * 256) = ((b * 256 : Nat) : Int) := by omega
  have h1 := (bits_nat .u16 16 (by decide) hk a (b * 256) (by omega) (by omega)).2
  have h2 := (bits_nat .u16 16 (by decide) hk (b * 256) a (by omega) (by omega)).2
  have h3 := bits_join .u16 16 (by decide) hk 8 ((b * 256 : Nat) : Int) (a : Int) (by omega) (by omega) (by omega) (by omega) (by omega) (by omega)
  rw [e, h1, Nat.or_comm, ← h2, h3]
  omega

set_option maxRecDepth 100000 in
set_option maxHeartbeats 4000000 in
theorem cell_any (w : World) (A : Option Addr) (c : Nat) (code : List Int) (a : Int) (h : CodeIn w A code) (h0 : 0 ≤ a) (h1 : a < 65536) :
    Calls Tryd.prog 51 #[.slice A code.length c, .int .u16 a] w fun e w' => e = .returned (.tuple #[.int .u16 ((cellOf code a).getD 0), .bool (cellOf code a).isSome]) ∧ Quiet w w' := by
  by_cases hev : a % 2 = 0
  · have d0 : a.tmod 2 = 0 := by rw [Int.tmod_eq_emod_of_nonneg h0]; exact hev
    by_cases hl : a + 1 < (code.length : Int)
    · have e : cellOf code a = some (code.getD a.toNat 0 + 256 * code.getD (a.toNat + 1) 0) := if_pos ⟨hev, hl⟩
      have hlen := h.len
      obtain ⟨ad, e0, c0⟩ := h.at_ a.toNat (by omega)
      obtain ⟨ad', e1, c1⟩ := h.at_ (a.toNat + 1) (by omega)
      obtain rfl : ad = ad' := by rw [e0] at e1; exact Option.some.inj e1
      obtain ⟨x, hx⟩ : ∃ x, x = code.getD a.toNat 0 := ⟨_, rfl⟩
      obtain ⟨y, hy⟩ : ∃ y, y = code.getD (a.toNat + 1) 0 := ⟨_, rfl⟩
      have bx := h.byte a.toNat
      have by' := h.byte (a.toNat + 1)
      rw [e]
      rw [← hx] at c0 bx ⊢
      rw [← hy] at c1 by' ⊢
      obtain ⟨n, hn⟩ : ∃ n, n = code.length := ⟨_, rfl⟩
      rw [← hn] at hl hlen ⊢
      have hl2 : a < (n : Int) := by omega
      have t1 : (a + 1).toNat = a.toNat + 1 := by omega
      rw [← t1] at c1
      clear t1
      have or1 := or_bytes x y bx by'
      subst e0
      clear e h hx hy hn e1
      go_enter Tryd.func51, Tryd.ntmps51
      go_wp2
      go_region
      go_wp2
      trace_state
      go_ret2
      exact ⟨rfl, _, rfl⟩
    · have e : cellOf code a = none := if_neg (fun h => hl h.2)
      rw [e]
      have hlen := h.len
      obtain ⟨n, hn⟩ : ∃ n, n = code.length := ⟨_, rfl⟩
      rw [← hn] at hl hlen ⊢
      clear e h hn
      go_enter Tryd.func51, Tryd.ntmps51
      go_wp2
      go_ret2
      exact ⟨rfl, Quiet.refl _⟩
  · have d0 : ¬ a.tmod 2 = 0 := by rw [Int.tmod_eq_emod_of_nonneg h0]; exact hev
    have e : cellOf code a = none := if_neg (fun h => hev h.1)
    rw [e]
    clear e h
    go_enter Tryd.func51, Tryd.ntmps51
    go_wp2
    go_ret2
    exact ⟨rfl, Quiet.refl _⟩
end Go.Proofs.YtabeljpnmmfpgaaDoor
