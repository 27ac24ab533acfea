/-
  ref.SameTones of two rows of the same tones.
-/
import Derived.Test.YtabeljpnmmfpgaaRefImage
namespace Go.Proofs.Ytabeljpnmmfpgaa
open Go.RowKit Go.MapKept
set_option linter.unusedVariables false
set_option linter.unusedSimpArgs false

theorem toneCells_get (l : List (Int × Int × Int)) (k : Nat) (hk : k < l.length) :
    (toneCells l)[k * 3]? = some (.int .i64 (l.getD k (0, 0, 0)).1) ∧ (toneCells l)[k * 3 + 1]? = some (.int .u16 (l.getD k (0, 0, 0)).2.1) ∧ (toneCells l)[k * 3 + 2]? = some (.int .u8 (l.getD k (0, 0, 0)).2.2) := by
  induction l generalizing k with
  | nil => simp at hk
  | cons x r ih =>
    cases k with
    | zero => exact ⟨rfl, rfl, rfl⟩
    | succ k =>
      have := ih k (by simpa using hk)
      rw [show (k + 1) * 3 = k * 3 + 3 by omega]
      exact this

/-- Tones that a slice holds. -/
def TonesIn (w : World) (v : Value) (l : List (Int × Int × Int)) : Prop :=
  ∃ a c, v = .slice a l.length c ∧ (0 < l.length → ∃ g o, a = some ⟨g, o, none⟩ ∧ ∀ k, k < l.length → w.cell? ⟨g, o + k * 3, none⟩ = some (.int .i64 (l.getD k (0, 0, 0)).1) ∧ w.cell? ⟨g, o + k * 3 + 1, none⟩ = some (.int .u16 (l.getD k (0, 0, 0)).2.1) ∧ w.cell? ⟨g, o + k * 3 + 2, none⟩ = some (.int .u8 (l.getD k (0, 0, 0)).2.2))
theorem TonesIn.of_own {w : World} {base : Nat} {v : Value} {l : List (Int × Int × Int)} (h : w.ownsRow base 92 3 v l.length (toneCells l)) : TonesIn w v l := by
  rcases h.2 with ⟨rfl, h0⟩ | ⟨g, cap, cur, rfl, hg, hh, _, _, _, hc⟩
  · have : l = [] := List.eq_nil_of_length_eq_zero h0
    subst this
    exact ⟨_, _, rfl, fun h => absurd h (by decide)⟩
  · refine ⟨_, _, rfl, fun _ => ⟨g, 0, rfl, fun k hk => ?_⟩⟩
    obtain ⟨h1, h2, h3⟩ := toneCells_get l k hk
    rw [← hc, List.getElem?_take] at h1 h2 h3
    rw [if_pos (by omega)] at h1 h2 h3
    rw [Nat.zero_add, cell_of hh, cell_of hh, cell_of hh, ← Array.getElem?_toList, ← Array.getElem?_toList, ← Array.getElem?_toList]
    exact ⟨h1, h2, h3⟩

set_option maxRecDepth 100000 in
set_option maxHeartbeats 2000000 in
theorem sameTones_any (w : World) (v u : Value) (l : List (Int × Int × Int)) (hv : TonesIn w v l) (hu : TonesIn w u l) (hlen : l.length ≤ 1000000000) :
    Calls Try.prog 36 #[v, u] w fun e w' => e = .returned (.bool true) ∧ Quiet w w' := by
  obtain ⟨A, cap, rfl, hrow⟩ := hv
  obtain ⟨B, cup, rfl, huow⟩ := hu
  have HR := Lib.hid hrow; have HS := Lib.hid huow
  clear hrow huow
  go_enter Try.func36, Try.ntmps36
  go_wp2_with (fail)
  go_loopw [13] (fun i wr => ∃ k : Nat, k ≤ l.length ∧ i = .int .i64 k ∧ Hid (Quiet w wr)) (fun i _ => l.length - (intOf i).toNat)
  case atStart => exact ⟨0, Nat.zero_le _, rfl, Quiet.refl _⟩
  case round =>
    obtain ⟨k, hk, rfl, hq⟩ := hrel
    by_cases hlt : k < l.length
    · obtain ⟨ab, ao, rfl, hcc⟩ := HR.out (by omega)
      obtain ⟨bb, bo, rfl, hcd⟩ := HS.out (by omega)
      have hh := hq.out.heap
      obtain ⟨a0, a1, a2⟩ := hcc k hlt
      obtain ⟨b0, b1, b2⟩ := hcd k hlt
      have c0 : wr.cell? ⟨ab, ao + k * 3, none⟩ = some (.int .i64 (l.getD k (0, 0, 0)).1) := by rw [← a0]; simp only [World.cell?, hh]
      have c1 : wr.cell? ⟨ab, ao + k * 3 + 1, none⟩ = some (.int .u16 (l.getD k (0, 0, 0)).2.1) := by rw [← a1]; simp only [World.cell?, hh]
      have c2 : wr.cell? ⟨ab, ao + k * 3 + 2, none⟩ = some (.int .u8 (l.getD k (0, 0, 0)).2.2) := by rw [← a2]; simp only [World.cell?, hh]
      have d0 : wr.cell? ⟨bb, bo + k * 3, none⟩ = some (.int .i64 (l.getD k (0, 0, 0)).1) := by rw [← b0]; simp only [World.cell?, hh]
      have d1 : wr.cell? ⟨bb, bo + k * 3 + 1, none⟩ = some (.int .u16 (l.getD k (0, 0, 0)).2.1) := by rw [← b1]; simp only [World.cell?, hh]
      have d2 : wr.cell? ⟨bb, bo + k * 3 + 2, none⟩ = some (.int .u8 (l.getD k (0, 0, 0)).2.2) := by rw [← b2]; simp only [World.cell?, hh]
      obtain ⟨x, hx⟩ : ∃ x, x = (l.getD k (0, 0, 0)).1 := ⟨_, rfl⟩
      obtain ⟨y, hy⟩ : ∃ y, y = (l.getD k (0, 0, 0)).2.1 := ⟨_, rfl⟩
      obtain ⟨z, hz⟩ : ∃ z, z = (l.getD k (0, 0, 0)).2.2 := ⟨_, rfl⟩
      rw [← hx] at c0 d0; rw [← hy] at c1 d1; rw [← hz] at c2 d2
      clear hx hy hz hh hcc hcd a0 a1 a2 b0 b1 b2
      go_wp2_with (fail)
      go_quiet (fail)
      go_wp2_with (fail)
      have hq2 : Hid (Quiet w (wr.drewN nq)) := hq.out.trans ⟨nq, rfl⟩
      go_roundw
      case rel => exact ⟨k + 1, hlt, by go_num, hq2⟩
      case measure => simp [intOf]; omega
    · have hke : k = l.length := by omega
      clear hke
      go_wp2_with (fail)
      go_ret
      exact ⟨rfl, hq.out⟩
end Go.Proofs.Ytabeljpnmmfpgaa
