/-
  (*mem.Memory).Load, Cell, Pad: what they tell of a memory.
  Bytes and cells: '&', '|' and shifts by eight as arithmetic.
-/
import Derived.Test.YtabeljpnmmfpgaaMemDef
import Derived.WalkLawsBesides
import Derived.WalkSpells
import Derived.Deep.QuietTactic
import Derived.BigQuiet
import Derived.Lib.Hide
import Derived.WalkKit
namespace Go.Proofs.Ytabeljpnmmfpgaa
open Go.RowKit Go.MapKept
set_option linter.unusedVariables false

def Mm.load (M : Mm) (a : Int) : Int :=
  if a < 16384 then 0
  else if a < 32768 then (match M.bank M.chosen with | none => 0 | some g => g (a - 16384).toNat)
  else if a < 49152 then M.ram (a - 32768).toNat
  else if a < 52224 then M.scr (a - 49152).toNat
  else if a = 65280 then M.chosen
  else if a = 65282 then M.pad
  else if a = 65284 then M.pitch % 256
  else if a = 65285 then M.pitch / 256
  else if a = 65286 then M.volume
  else if a = 65288 then M.time % 256
  else if a = 65289 then M.time / 256
  else 0

theorem load_nil (a : Int) (w : World) : Calls Try.prog 15 #[.pointer none, .int .u16 a] w fun e w' => e = .returned (.int .u8 0) ∧ w = w' := by
  go_enter Try.func15, Try.ntmps15
  go_wp2
  go_ret
  exact ⟨rfl, rfl⟩

theorem load_code (b : Nat) (a : Int) (w : World) (h1 : a < 16384) :
    Calls Try.prog 15 #[.pointer (some ⟨b, 0, none⟩), .int .u16 a] w fun e w' => e = .returned (.int .u8 0) ∧ w = w' := by
  go_enter Try.func15, Try.ntmps15
  go_wp2
  go_ret
  exact ⟨rfl, rfl⟩

theorem load_ram (b : Nat) (a : Int) (w : World) (v : Int) (h0 : 32768 ≤ a) (h1 : a < 49152) (hc : w.cell? ⟨b, 1 + (a - 32768).toNat, none⟩ = some (.int .u8 v)) :
    Calls Try.prog 15 #[.pointer (some ⟨b, 0, none⟩), .int .u16 a] w fun e w' => e = .returned (.int .u8 v) ∧ w = w' := by
  go_enter Try.func15, Try.ntmps15
  go_wp2
  go_ret
  exact ⟨rfl, rfl⟩

theorem load_scr (b : Nat) (a : Int) (w : World) (v : Int) (h0 : 49152 ≤ a) (h1 : a < 52224) (hc : w.cell? ⟨b, 16385 + (a - 49152).toNat, none⟩ = some (.int .u8 v)) :
    Calls Try.prog 15 #[.pointer (some ⟨b, 0, none⟩), .int .u16 a] w fun e w' => e = .returned (.int .u8 v) ∧ w = w' := by
  go_enter Try.func15, Try.ntmps15
  go_wp2
  go_ret
  exact ⟨rfl, rfl⟩

set_option maxRecDepth 100000 in
theorem load_bank (b bm x : Nat) (a : Int) (w : World) (c v : Int) (h0 : 16384 ≤ a) (h1 : a < 32768) (hm : w.cell? ⟨b, 0, none⟩ = some (.map (some bm))) (hch : w.cell? ⟨b, 19457, none⟩ = some (.int .u8 c))
    (hl : ∀ n, (Instr.lookup 82 (.map (some bm)) (.int .u8 c) true).run Try.prog (w.drewN n) = .ok (.tuple #[.pointer (some ⟨x, 0, none⟩), .bool true]) (w.drewN n))
    (hc : w.cell? ⟨x, (a - 16384).toNat, none⟩ = some (.int .u8 v)) :
    Calls Try.prog 15 #[.pointer (some ⟨b, 0, none⟩), .int .u16 a] w fun e w' => e = .returned (.int .u8 v) ∧ Quiet w w' := by
  go_enter Try.func15, Try.ntmps15
  go_wp2_with (fail)
  go_quiet (fail)
  go_wp2_with (fail)
  go_ret
  exact ⟨rfl, _, rfl⟩

set_option maxRecDepth 100000 in
theorem load_nobank (b bm : Nat) (a : Int) (w : World) (c : Int) (h0 : 16384 ≤ a) (h1 : a < 32768) (hm : w.cell? ⟨b, 0, none⟩ = some (.map (some bm))) (hch : w.cell? ⟨b, 19457, none⟩ = some (.int .u8 c))
    (hl : ∀ n, (Instr.lookup 82 (.map (some bm)) (.int .u8 c) true).run Try.prog (w.drewN n) = .ok (.tuple #[.pointer none, .bool false]) (w.drewN n)) :
    Calls Try.prog 15 #[.pointer (some ⟨b, 0, none⟩), .int .u16 a] w fun e w' => e = .returned (.int .u8 0) ∧ Quiet w w' := by
  go_enter Try.func15, Try.ntmps15
  go_wp2_with (fail)
  go_quiet (fail)
  go_wp2_with (fail)
  go_ret
  exact ⟨rfl, _, rfl⟩

theorem load_port8 (b : Nat) (a : Int) (w : World) (k : Nat) (v : Int) (hak : a = 65280 ∧ k = 19457 ∨ a = 65282 ∧ k = 19458 ∨ a = 65286 ∧ k = 19459) (hc : w.cell? ⟨b, k, none⟩ = some (.int .u8 v)) :
    Calls Try.prog 15 #[.pointer (some ⟨b, 0, none⟩), .int .u16 a] w fun e w' => e = .returned (.int .u8 v) ∧ w = w' := by
  rcases hak with ⟨rfl, rfl⟩ | ⟨rfl, rfl⟩ | ⟨rfl, rfl⟩
  all_goals
    go_enter Try.func15, Try.ntmps15
    go_wp2
    go_ret
    exact ⟨rfl, rfl⟩

theorem load_low (b : Nat) (a : Int) (w : World) (k : Nat) (v : Int) (hak : a = 65284 ∧ k = 19460 ∨ a = 65288 ∧ k = 19461) (hv : 0 ≤ v ∧ v < 65536) (hc : w.cell? ⟨b, k, none⟩ = some (.int .u16 v)) :
    Calls Try.prog 15 #[.pointer (some ⟨b, 0, none⟩), .int .u16 a] w fun e w' => e = .returned (.int .u8 (v % 256)) ∧ w = w' := by
  rcases hak with ⟨rfl, rfl⟩ | ⟨rfl, rfl⟩
  all_goals
    go_enter Try.func15, Try.ntmps15
    go_wp2
    go_ret
    exact ⟨rfl, rfl⟩

theorem load_high (b : Nat) (a : Int) (w : World) (k : Nat) (v : Int) (hak : a = 65285 ∧ k = 19460 ∨ a = 65289 ∧ k = 19461) (hv : 0 ≤ v ∧ v < 65536) (hc : w.cell? ⟨b, k, none⟩ = some (.int .u16 v)) :
    Calls Try.prog 15 #[.pointer (some ⟨b, 0, none⟩), .int .u16 a] w fun e w' => e = .returned (.int .u8 (v / 256)) ∧ w = w' := by
  rcases hak with ⟨rfl, rfl⟩ | ⟨rfl, rfl⟩
  all_goals
    go_enter Try.func15, Try.ntmps15
    go_wp2
    go_ret
    exact ⟨rfl, rfl⟩

theorem load_else (b : Nat) (a : Int) (w : World) (h0 : 52224 ≤ a) (hu : a < 65536) (h1 : a ≠ 65280) (h2 : a ≠ 65282) (h3 : a ≠ 65284) (h4 : a ≠ 65285) (h5 : a ≠ 65286) (h6 : a ≠ 65288) (h7 : a ≠ 65289) :
    Calls Try.prog 15 #[.pointer (some ⟨b, 0, none⟩), .int .u16 a] w fun e w' => e = .returned (.int .u8 0) ∧ w = w' := by
  have e1 : (a == 65280) = false := by simpa using h1
  have e2 : (a == 65282) = false := by simpa using h2
  have e3 : (a == 65284) = false := by simpa using h3
  have e4 : (a == 65285) = false := by simpa using h4
  have e5 : (a == 65286) = false := by simpa using h5
  have e6 : (a == 65288) = false := by simpa using h6
  have e7 : (a == 65289) = false := by simpa using h7
  go_enter Try.func15, Try.ntmps15
  go_wp2
  go_ret
  exact ⟨rfl, rfl⟩

theorem zero_bank (w : World) : (zeroValue 88).run Try.prog w = .ok (.pointer none) w := by kernel_rfl

theorem load_rep {b : Nat} {M : Mm} {S : Nat → Prop} {a : Int} {w : World} (h : MemRep w b M S) (h0 : 0 ≤ a) (h1 : a < 65536) :
    Calls Try.prog 15 #[.pointer (some ⟨b, 0, none⟩), .int .u16 a] w fun e w' => e = .returned (.int .u8 (M.load a)) ∧ Quiet w w' := by
  obtain ⟨cs, bm, es, clk, bf, tv, H⟩ := h
  have same : ∀ v : Int, v = M.load a → Calls Try.prog 15 #[.pointer (some ⟨b, 0, none⟩), .int .u16 a] w (fun e w' => e = .returned (.int .u8 v) ∧ w = w') →
      Calls Try.prog 15 #[.pointer (some ⟨b, 0, none⟩), .int .u16 a] w fun e w' => e = .returned (.int .u8 (M.load a)) ∧ Quiet w w' := by
    intro v hv hc
    subst hv
    exact hc.mono fun e w' ⟨he, hw⟩ => ⟨he, hw ▸ Quiet.refl _⟩
  by_cases c1 : a < 16384
  · exact same 0 (by unfold Mm.load; rw [if_pos c1]) (load_code b a w c1)
  by_cases c2 : a < 32768
  · have hm : w.cell? ⟨b, 0, none⟩ = some (.map (some bm)) := by rw [H.at_ 0 (by omega)]; rfl
    have hch : w.cell? ⟨b, 19457, none⟩ = some (.int .u8 M.chosen) := by rw [H.at_ 19457 (by omega)]; rfl
    cases hb : bf M.chosen with
    | none =>
      refine (load_nobank b bm a w M.chosen (by omega) c2 hm hch ?_).mono fun e w' ⟨he, hw⟩ => ⟨?_, hw⟩
      · intro n
        exact H.imap.look_none (w := w.drewN n) H.map Try.underlying82 Try.underlying5 (zero_bank _) (by simp [hb]) true
      · rw [he]; unfold Mm.load; rw [if_neg c1, if_pos c2, H.gone _ hb]
    | some x =>
      obtain ⟨bs, g, g1, g2, g3, g4⟩ := H.bank _ _ hb
      refine (load_bank b bm x a w M.chosen (g (a - 16384).toNat) (by omega) c2 hm hch ?_ ?_).mono fun e w' ⟨he, hw⟩ => ⟨?_, hw⟩
      · intro n
        exact H.imap.look_some (w := w.drewN n) H.map Try.underlying82 Try.underlying5 (by simp [hb]) true
      · rw [cell_of g2, g4 _ (by omega)]
      · rw [he]; unfold Mm.load; rw [if_neg c1, if_pos c2, g1]
  by_cases c3 : a < 49152
  · refine same _ ?_ (load_ram b a w (M.ram (a - 32768).toNat) (by omega) c3 (by rw [H.at_ _ (by omega), Mm.cell_ram _ _ _ (by omega)]))
    unfold Mm.load; rw [if_neg c1, if_neg c2, if_pos c3]
  by_cases c4 : a < 52224
  · refine same _ ?_ (load_scr b a w (M.scr (a - 49152).toNat) (by omega) c4 (by rw [H.at_ _ (by omega), Mm.cell_scr _ _ _ (by omega)]))
    unfold Mm.load; rw [if_neg c1, if_neg c2, if_neg c3, if_pos c4]
  have L : M.load a = (if a = 65280 then M.chosen else if a = 65282 then M.pad else if a = 65284 then M.pitch % 256 else if a = 65285 then M.pitch / 256 else if a = 65286 then M.volume else if a = 65288 then M.time % 256 else if a = 65289 then M.time / 256 else 0) := by
    unfold Mm.load; rw [if_neg c1, if_neg c2, if_neg c3, if_neg c4]
  by_cases e1 : a = 65280
  · exact same M.chosen (by rw [L, if_pos e1]) (load_port8 b a w 19457 _ (by omega) (by rw [H.at_ 19457 (by omega)]; rfl))
  by_cases e2 : a = 65282
  · exact same M.pad (by rw [L, if_neg e1, if_pos e2]) (load_port8 b a w 19458 _ (by omega) (by rw [H.at_ 19458 (by omega)]; rfl))
  by_cases e3 : a = 65284
  · exact same _ (by rw [L, if_neg e1, if_neg e2, if_pos e3]) (load_low b a w 19460 M.pitch (by omega) H.ok.pitch (by rw [H.at_ 19460 (by omega)]; rfl))
  by_cases e4 : a = 65285
  · exact same _ (by rw [L, if_neg e1, if_neg e2, if_neg e3, if_pos e4]) (load_high b a w 19460 M.pitch (by omega) H.ok.pitch (by rw [H.at_ 19460 (by omega)]; rfl))
  by_cases e5 : a = 65286
  · exact same M.volume (by rw [L, if_neg e1, if_neg e2, if_neg e3, if_neg e4, if_pos e5]) (load_port8 b a w 19459 _ (by omega) (by rw [H.at_ 19459 (by omega)]; rfl))
  by_cases e6 : a = 65288
  · exact same _ (by rw [L, if_neg e1, if_neg e2, if_neg e3, if_neg e4, if_neg e5, if_pos e6]) (load_low b a w 19461 M.time (by omega) H.ok.time (by rw [H.at_ 19461 (by omega)]; rfl))
  by_cases e7 : a = 65289
  · exact same _ (by rw [L, if_neg e1, if_neg e2, if_neg e3, if_neg e4, if_neg e5, if_neg e6, if_pos e7]) (load_high b a w 19461 M.time (by omega) H.ok.time (by rw [H.at_ 19461 (by omega)]; rfl))
  exact same 0 (by rw [L, if_neg e1, if_neg e2, if_neg e3, if_neg e4, if_neg e5, if_neg e6, if_neg e7]) (load_else b a w (by omega) h1 e1 e2 e3 e4 e5 e6 e7)

theorem Mm.load_range {M : Mm} (h : M.Ok) (a : Int) : 0 ≤ M.load a ∧ M.load a < 256 := by
  have p1 := h.pitch
  have p2 := h.time
  unfold Mm.load
  repeat' split
  all_goals first | exact h.ram _ | exact h.scr _ | exact h.chosen | exact h.pad | exact h.volume | (exact h.bank _ _ ‹_› _) | omega
end Go.Proofs.Ytabeljpnmmfpgaa

namespace Go.Proofs.Ytabeljpnmmfpgaa
open Go.RowKit
set_option linter.unusedVariables false

theorem nat_and_hi (p : Nat) (h : p < 65536) : p &&& 65280 = p / 256 * 256 := by
  have e1 : (65280 : Nat) = (2 ^ 8 - 1) <<< 8 := by decide
  have e2 : p / 256 * 256 = (p >>> 8) <<< 8 := by rw [Nat.shiftRight_eq_div_pow, Nat.shiftLeft_eq]
  rw [e1, e2]
  apply Nat.eq_of_testBit_eq
  intro i
  rw [Nat.testBit_and, Nat.testBit_shiftLeft, Nat.testBit_shiftLeft, Nat.testBit_two_pow_sub_one, Nat.testBit_shiftRight]
  by_cases h8 : 8 ≤ i
  · by_cases h16 : i < 16
    · simp [h8, show i - 8 < 8 by omega, show 8 + (i - 8) = i by omega]
    · have : p.testBit i = false := Nat.testBit_lt_two_pow (Nat.lt_of_lt_of_le h (by calc (65536 : Nat) = 2 ^ 16 := by decide
          _ ≤ 2 ^ i := Nat.pow_le_pow_right (by decide) (by omega)))
      simp [h8, this, show 8 + (i - 8) = i by omega]
  · simp [h8]

theorem u16_wrap (n : Int) : IntKind.u16.wrap n = n % 65536 := by simp [IntKind.wrap, IntKind.bits, IntKind.signed]
theorem wraps_u16 (n : Int) (h₀ : 0 ≤ n) (h₁ : n < 2 ^ 16) : IntKind.u16.wrap n = n := by
  have : IntKind.u16.wrap n = n % 65536 := by simp [IntKind.wrap, IntKind.bits, IntKind.signed]
  rw [this]; omega

theorem u16_and_hi {p : Int} (h0 : 0 ≤ p) (h1 : p < 65536) : bits .and .u16 p 65280 = p / 256 * 256 := by
  obtain ⟨n, rfl⟩ := Int.eq_ofNat_of_zero_le h0
  have := (bits_nat .u16 16 (by decide) wraps_u16 n 65280 (by omega) (by decide)).1
  rw [show ((65280 : Nat) : Int) = 65280 from rfl] at this
  rw [this, nat_and_hi n (by omega)]
  omega
theorem u16_and_lo {p : Int} (h0 : 0 ≤ p) (h1 : p < 65536) : bits .and .u16 p 255 = p % 256 := by
  have := bits_mask .u16 16 (by decide) wraps_u16 8 (by decide) p h0 (by omega)
  simpa using this
theorem u16_or_lo {x y : Int} (h0 : 0 ≤ x) (h1 : x < 65536) (hx : x % 256 = 0) (h2 : 0 ≤ y) (h3 : y < 256) : bits .or .u16 x y = x + y := by
  exact bits_join .u16 16 (by decide) wraps_u16 8 x y h0 (by simpa using hx) (by omega) h2 (by omega) (by omega)
theorem u16_or_comm {x y : Int} (h0 : 0 ≤ x) (h1 : x < 65536) (h2 : 0 ≤ y) (h3 : y < 65536) : bits .or .u16 x y = bits .or .u16 y x := by
  obtain ⟨a, rfl⟩ := Int.eq_ofNat_of_zero_le h0
  obtain ⟨b, rfl⟩ := Int.eq_ofNat_of_zero_le h2
  rw [(bits_nat .u16 16 (by decide) wraps_u16 a b (by omega) (by omega)).2, (bits_nat .u16 16 (by decide) wraps_u16 b a (by omega) (by omega)).2, Nat.or_comm]
theorem u16_or_hi {x y : Int} (h0 : 0 ≤ x) (h1 : x < 256) (h2 : 0 ≤ y) (h3 : y < 65536) (hy : y % 256 = 0) : bits .or .u16 x y = x + y := by
  rw [u16_or_comm h0 (by omega) h2 h3, u16_or_lo h2 h3 hy h0 h1]; omega
end Go.Proofs.Ytabeljpnmmfpgaa
