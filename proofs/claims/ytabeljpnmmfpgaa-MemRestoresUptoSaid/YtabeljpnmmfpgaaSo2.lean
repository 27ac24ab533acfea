/-
  Sorting a row of bytes, 2: the choice of a pivot.
-/
import Derived.Test.YtabeljpnmmfpgaaSo1
namespace Go.Proofs.Ytabeljpnmmfpgaa
open Go.RowKit Go.MapKept
set_option linter.unusedVariables false
set_option linter.unusedSimpArgs false

/-- The row stands, and the count of swaps in a block of its own. -/
structure Pv (w0 w : World) (g n : Nat) (d : Nat → Int) (s v : Nat) : Prop where
  rw : Rw w0 w g n d
  new : w0.heap.size ≤ s
  ne : s ≠ g
  cell : w.heap[s]? = some (.cells #[.int .i64 (v : Int)] 3 (0, 0))
theorem Pv.drewN {w0 w : World} {g n : Nat} {d : Nat → Int} {s v : Nat} (h : Pv w0 w g n d s v) (m : Nat) : Pv w0 (w.drewN m) g n d s v := ⟨h.rw.quiet ⟨m, rfl⟩, h.new, h.ne, h.cell⟩
theorem Pv.at_ {w0 w : World} {g n : Nat} {d : Nat → Int} {s v : Nat} (h : Pv w0 w g n d s v) : w.cell? ⟨s, 0, none⟩ = some (.int .i64 (v : Int)) ∧ w.frozen? ⟨s, 0, none⟩ = false := by
  constructor
  · rw [cell_of h.cell]; rfl
  · simp [World.frozen?, h.cell]
theorem Pv.inc {w0 w : World} {g n : Nat} {d : Nat → Int} {s v : Nat} (h : Pv w0 w g n d s v) : Pv w0 (w.setCell ⟨s, 0, none⟩ (.int .i64 ((v : Int) + 1))) g n d s (v + 1) := by
  obtain ⟨⟨hu, cs, h1, h2⟩, hn, hne, hc⟩ := h
  refine ⟨⟨hu.setCell (fun hl => by dsimp only at hl; omega) _, cs, ?_, h2⟩, hn, hne, ?_⟩
  · rw [heap_set_far hne.symm]; exact h1
  · rw [heap_set_cell hc]; simp

set_option maxRecDepth 100000 in
set_option maxHeartbeats 4000000 in
theorem order2_any {w0 w : World} {g n c a b : Nat} {d : Nat → Int} {s v : Nat} (h : Pv w0 w g n d s v) (ha : a < n) (hb : b < n) (hn : n ≤ 1000000000) (hv : v ≤ 1000) :
    Calls Try.prog 79 #[.slice (some ⟨g, 0, none⟩) n c, .int .i64 a, .int .i64 b, .pointer (some ⟨s, 0, none⟩)] w fun e w' => ∃ x y v' : Nat, e = .returned (.tuple #[.int .i64 x, .int .i64 y]) ∧ (x = a ∨ x = b) ∧ (y = a ∨ y = b) ∧ v' ≤ v + 1 ∧ Hid (Pv w0 w' g n d s v') := by
  have H := Lib.hid h
  have ca := h.rw.cell ha
  have cb := h.rw.cell hb
  obtain ⟨s0, s1⟩ := h.at_
  obtain ⟨x, hx⟩ : ∃ x, x = d a := ⟨_, rfl⟩
  obtain ⟨y, hy⟩ : ∃ y, y = d b := ⟨_, rfl⟩
  rw [← hx] at ca; rw [← hy] at cb
  have b0 : (a : Int) < (n : Int) := by omega
  have b1 : (b : Int) < (n : Int) := by omega
  clear h hx hy
  by_cases hl : y < x
  · have d1 : decide (y < x) = true := by simpa using hl
    have f : Hid (∀ m, Pv w0 ((w.drewN m).setCell ⟨s, 0, none⟩ (.int .i64 ((v : Int) + 1))) g n d s (v + 1)) := fun m => (H.out.drewN m).inc
    go_enter Try.func79, Try.ntmps79
    go_wp2_with (fail)
    go_big_quiet (first | (go_at_call 68; refine Calls.quiet_of_same (less_any _ _ _)))
    go_wp2_with (fail)
    go_ret2
    exact ⟨b, a, v + 1, rfl, .inr rfl, .inl rfl, Nat.le_refl _, f.out _⟩
  · have d1 : decide (y < x) = false := by simpa using hl
    have f : Hid (∀ m, Pv w0 (w.drewN m) g n d s v) := fun m => H.out.drewN m
    go_enter Try.func79, Try.ntmps79
    go_wp2_with (fail)
    go_big_quiet (first | (go_at_call 68; refine Calls.quiet_of_same (less_any _ _ _)))
    go_wp2_with (fail)
    go_ret2
    exact ⟨a, b, v, rfl, .inl rfl, .inr rfl, by omega, f.out _⟩

set_option maxRecDepth 100000 in
set_option maxHeartbeats 4000000 in
theorem median_any {w0 w : World} {g n c x y z : Nat} {d : Nat → Int} {s v : Nat} (h : Pv w0 w g n d s v) (hx : x < n) (hy : y < n) (hz : z < n) (hn : n ≤ 1000000000) (hv : v ≤ 900) :
    Calls Try.prog 77 #[.slice (some ⟨g, 0, none⟩) n c, .int .i64 x, .int .i64 y, .int .i64 z, .pointer (some ⟨s, 0, none⟩)] w fun e w' => ∃ m v' : Nat, e = .returned (.int .i64 m) ∧ (m = x ∨ m = y ∨ m = z) ∧ v' ≤ v + 3 ∧ Hid (Pv w0 w' g n d s v') := by
  have H := Lib.hid h
  clear h
  go_enter Try.func77, Try.ntmps77
  go_wp2_with (fail)
  refine (order2_any H.out hx hy hn (by omega)).mono ?_
  rintro e w1 ⟨x1, y1, v1, rfl, hx1, hy1, hv1, H1⟩
  have hy1' : y1 < n := by rcases hy1 with rfl | rfl <;> assumption
  have hx1' : x1 < n := by rcases hx1 with rfl | rfl <;> assumption
  go_wp2_with (fail)
  refine (order2_any H1.out hy1' hz hn (by omega)).mono ?_
  rintro e w2 ⟨y2, z2, v2, rfl, hy2, hz2, hv2, H2⟩
  have hy2' : y2 < n := by rcases hy2 with rfl | rfl <;> assumption
  go_wp2_with (fail)
  refine (order2_any H2.out hx1' hy2' hn (by omega)).mono ?_
  rintro e w3 ⟨x3, y3, v3, rfl, hx3, hy3, hv3, H3⟩
  have fin : y3 = x ∨ y3 = y ∨ y3 = z := by omega
  have hvf : v3 ≤ v + 3 := by omega
  clear hx1 hy1 hy2 hz2 hx3 hy3
  go_wp2_with (fail)
  go_ret
  exact ⟨y3, v3, rfl, fin, hvf, H3⟩

set_option maxRecDepth 100000 in
set_option maxHeartbeats 4000000 in
theorem choosePivot_any (w0 w : World) (g n c a b : Nat) (d : Nat → Int) (h : Rw w0 w g n d) (hg : g < w.heap.size) (hl8 : a + 8 ≤ b) (hl50 : b < a + 50) (hb : b ≤ n) (hn : n ≤ 1000000000) :
    Calls Try.prog 65 #[.slice (some ⟨g, 0, none⟩) n c, .int .i64 a, .int .i64 b] w fun e w' => ∃ p k : Nat, e = .returned (.tuple #[.int .i64 p, .int .i64 k]) ∧ a ≤ p ∧ p < b ∧ k < 2 ∧ Hid (Rw w0 w' g n d) := by
  have st : Hid (Pv w0 (w.alloc (.cells #[.int .i64 0] 3)) g n d w.heap.size 0) := ⟨h.next ((Below.refl _ _).alloc (Nat.le_refl _) _), h.upd.size, by omega, heap_alloc_at w _⟩
  have e1 : ((a : Int) + ((b : Int) - (a : Int)) / 4) = ((a + (b - a) / 4 : Nat) : Int) := by omega
  have e2 : ((a : Int) + ((b : Int) - (a : Int)) / 4 * 2) = ((a + (b - a) / 4 * 2 : Nat) : Int) := by omega
  have e3 : ((a : Int) + ((b : Int) - (a : Int)) / 4 * 3) = ((a + (b - a) / 4 * 3 : Nat) : Int) := by omega
  have E1 := Lib.hid e1; have E2 := Lib.hid e2; have E3 := Lib.hid e3
  clear h e1 e2 e3
  go_enter Try.func65, Try.ntmps65
  go_wp2_with (fail)
  rw [E1.out, E2.out, E3.out]
  refine (median_any st.out (by omega) (by omega) (by omega) hn (by omega)).mono ?_
  rintro e w1 ⟨m, v, rfl, hm, hv, H1⟩
  have hm1 : a ≤ m := by omega
  have hm2 : m < b := by omega
  obtain ⟨c0, c1⟩ := H1.out.at_
  have fin := Lib.hid H1.out.rw
  clear hm H1
  by_cases hv0 : v = 0
  · subst hv0
    go_wp2_with (fail)
    go_ret2
    exact ⟨m, 1, rfl, hm1, hm2, by omega, fin⟩
  · have d0 : ((v : Int) == 0) = false := by simp; omega
    have d1 : ((v : Int) == 12) = false := by simp; omega
    go_wp2_with (fail)
    go_ret2
    exact ⟨m, 0, rfl, hm1, hm2, by omega, fin⟩
end Go.Proofs.Ytabeljpnmmfpgaa
