/-
  Sorting a row of addresses: choosing a pivot.
-/
import Derived.Test.YtabeljpnmmfpgaaDoorFlSort
namespace Go.Proofs.YtabeljpnmmfpgaaDoor
open Go.RowKit Go.MapKept
set_option linter.unusedVariables false
set_option linter.unusedSimpArgs false

/-- The row stands, and the count of swaps in a block of its own. -/
structure Pv (w0 w : World) (g n : Nat) (d : Nat → Int) (s v : Nat) : Prop where
  rw : Rw w0 w g n d
  new : w0.heap.size ≤ s
  ne : s ≠ g
  cell : w.heap[s]? = some (.cells #[.int .i64 (v : Int)] 3 (0, 0))
theorem Pv.drewN {w0 w : World} {g n : Nat} {d : Nat → Int} {s v : Nat} (h : Pv w0 w g n d s v) (m : Nat) : Pv w0 (w.drewN m) g n d s v := ⟨h.rw.quiet ⟨m, rfl⟩, h.new, h.ne, h.cell⟩
theorem Pv.at_ {w0 w : World} {g n : Nat} {d : Nat → Int} {s v : Nat} (h : Pv w0 w g n d s v) : w.cell? ⟨s, 0, none⟩ = some (.int .i64 (v : Int)) ∧ w.frozen? ⟨s, 0, none⟩ = false := by
  constructor
  · rw [cell_of h.cell]; rfl
  · simp [World.frozen?, h.cell]
theorem Pv.inc {w0 w : World} {g n : Nat} {d : Nat → Int} {s v : Nat} (h : Pv w0 w g n d s v) : Pv w0 (w.setCell ⟨s, 0, none⟩ (.int .i64 ((v : Int) + 1))) g n d s (v + 1) := by
  obtain ⟨⟨hu, hz, cs, h1, h2⟩, hn, hne, hc⟩ := h
  refine ⟨⟨hu.setCell (fun hl => by dsimp only at hl; omega) _, fun c0 c1 e0 e1 => hz c0 c1 e0 (by rw [heap_set_far hne.symm] at e1; exact e1), cs, ?_, h2⟩, hn, hne, ?_⟩
  · rw [heap_set_far hne.symm]; exact h1
  · rw [heap_set_cell hc]; simp

set_option maxRecDepth 100000 in
set_option maxHeartbeats 4000000 in
theorem order2_any {w0 w : World} {g n c a b : Nat} {d : Nat → Int} {s v : Nat} (h : Pv w0 w g n d s v) (ha : a < n) (hb : b < n) (hn : n ≤ 1000000000) (hv : v ≤ 1000) :
    Calls Tryd.prog 102 #[.slice (some ⟨g, 0, none⟩) n c, .int .i64 a, .int .i64 b, .pointer (some ⟨s, 0, none⟩)] w fun e w' => ∃ x y v' : Nat, e = .returned (.tuple #[.int .i64 x, .int .i64 y]) ∧ (x = a ∨ x = b) ∧ (y = a ∨ y = b) ∧ v' ≤ v + 1 ∧ Hid (Pv w0 w' g n d s v') := by
  have H := Lib.hid h
  have ca := h.rw.cell ha
  have cb := h.rw.cell hb
  obtain ⟨s0, s1⟩ := h.at_
  obtain ⟨x, hx⟩ : ∃ x, x = d a := ⟨_, rfl⟩
  obtain ⟨y, hy⟩ : ∃ y, y = d b := ⟨_, rfl⟩
  rw [← hx] at ca; rw [← hy] at cb
  have b0 : (a : Int) < (n : Int) := by omega
  have b1 : (b : Int) < (n : Int) := by omega
  clear h hx hy
  by_cases hl : y < x
  · have d1 : decide (y < x) = true := by simpa using hl
    have f : Hid (∀ m, Pv w0 ((w.drewN m).setCell ⟨s, 0, none⟩ (.int .i64 ((v : Int) + 1))) g n d s (v + 1)) := fun m => (H.out.drewN m).inc
    go_enter Tryd.func102, Tryd.ntmps102
    go_wp2_with (fail)
    go_big_quiet (first | (go_at_call 94; refine Calls.quiet_of_same (less_any _ _ _)))
    go_wp2_with (fail)
    go_ret2
    exact ⟨b, a, v + 1, rfl, .inr rfl, .inl rfl, Nat.le_refl _, f.out _⟩
  · have d1 : decide (y < x) = false := by simpa using hl
    have f : Hid (∀ m, Pv w0 (w.drewN m) g n d s v) := fun m => H.out.drewN m
    go_enter Tryd.func102, Tryd.ntmps102
    go_wp2_with (fail)
    go_big_quiet (first | (go_at_call 94; refine Calls.quiet_of_same (less_any _ _ _)))
    go_wp2_with (fail)
    go_ret2
    exact ⟨a, b, v, rfl, .inl rfl, .inr rfl, by omega, f.out _⟩

set_option maxRecDepth 100000 in
set_option maxHeartbeats 4000000 in
theorem median_any {w0 w : World} {g n c x y z : Nat} {d : Nat → Int} {s v : Nat} (h : Pv w0 w g n d s v) (hx : x < n) (hy : y < n) (hz : z < n) (hn : n ≤ 1000000000) (hv : v ≤ 900) :
    Calls Tryd.prog 100 #[.slice (some ⟨g, 0, none⟩) n c, .int .i64 x, .int .i64 y, .int .i64 z, .pointer (some ⟨s, 0, none⟩)] w fun e w' => ∃ m v' : Nat, e = .returned (.int .i64 m) ∧ (m = x ∨ m = y ∨ m = z) ∧ v' ≤ v + 3 ∧ Hid (Pv w0 w' g n d s v') := by
  have H := Lib.hid h
  clear h
  go_enter Tryd.func100, Tryd.ntmps100
  go_wp2_with (fail)
  refine (order2_any H.out hx hy hn (by omega)).mono ?_
  rintro e w1 ⟨x1, y1, v1, rfl, hx1, hy1, hv1, H1⟩
  have hy1' : y1 < n := by rcases hy1 with rfl | rfl <;> assumption
  have hx1' : x1 < n := by rcases hx1 with rfl | rfl <;> assumption
  go_wp2_with (fail)
  refine (order2_any H1.out hy1' hz hn (by omega)).mono ?_
  rintro e w2 ⟨y2, z2, v2, rfl, hy2, hz2, hv2, H2⟩
  have hy2' : y2 < n := by rcases hy2 with rfl | rfl <;> assumption
  go_wp2_with (fail)
  refine (order2_any H2.out hx1' hy2' hn (by omega)).mono ?_
  rintro e w3 ⟨x3, y3, v3, rfl, hx3, hy3, hv3, H3⟩
  have fin : y3 = x ∨ y3 = y ∨ y3 = z := by omega
  have hvf : v3 ≤ v + 3 := by omega
  clear hx1 hy1 hy2 hz2 hx3 hy3
  go_wp2_with (fail)
  go_ret
  exact ⟨y3, v3, rfl, fin, hvf, H3⟩

set_option maxRecDepth 100000 in
set_option maxHeartbeats 4000000 in
theorem medianAdj_any {w0 w : World} {g n c y : Nat} {d : Nat → Int} {s v : Nat} (h : Pv w0 w g n d s v) (hy : y + 2 < n) (hn : n ≤ 1000000000) (hv : v ≤ 900) :
    Calls Tryd.prog 99 #[.slice (some ⟨g, 0, none⟩) n c, .int .i64 ((y + 1 : Nat) : Int), .pointer (some ⟨s, 0, none⟩)] w fun e w' => ∃ m v' : Nat, e = .returned (.int .i64 m) ∧ y ≤ m ∧ m ≤ y + 2 ∧ v' ≤ v + 3 ∧ Hid (Pv w0 w' g n d s v') := by
  have md := Lib.hid (median_any (x := y) (y := y + 1) (z := y + 2) (c := c) h (by omega) (by omega) hy hn hv)
  clear h
  obtain ⟨z, hz⟩ : ∃ z, z = y + 1 := ⟨_, rfl⟩
  have E1 : Hid (((z : Nat) : Int) - 1 = (y : Int)) := show _ = _ by omega
  have E2 : Hid (((z : Nat) : Int) + 1 = ((y + 2 : Nat) : Int)) := show _ = _ by omega
  have zb : z ≤ 1000000000 := by omega
  have z0 : 1 ≤ z := by omega
  rw [← hz] at md ⊢
  clear hz
  go_enter Tryd.func99, Tryd.ntmps99
  go_wp2_with (fail)
  rw [E1.out, E2.out]
  refine md.out.mono ?_
  rintro e w1 ⟨m, v', rfl, hm, hv', H1⟩
  have m1 : y ≤ m := by have := E1.out; omega
  have m2 : m ≤ y + 2 := by have := E1.out; omega
  clear hm
  go_wp2_with (fail)
  go_ret
  exact ⟨m, v', rfl, m1, m2, hv', H1⟩

set_option maxRecDepth 100000 in
set_option maxHeartbeats 8000000 in
theorem choosePivot_any (w0 w : World) (g n c a b : Nat) (d : Nat → Int) (h : Rw w0 w g n d) (hg : g < w.heap.size) (hl8 : a + 8 ≤ b) (hb : b ≤ n) (hn : n ≤ 1000000000) :
    Calls Tryd.prog 91 #[.slice (some ⟨g, 0, none⟩) n c, .int .i64 a, .int .i64 b] w fun e w' => ∃ p k : Nat, e = .returned (.tuple #[.int .i64 p, .int .i64 k]) ∧ a ≤ p ∧ p < b ∧ k ≤ 2 ∧ Hid (Rw w0 w' g n d) := by
  have st : Hid (Pv w0 (w.alloc (.cells #[.int .i64 0] 3)) g n d w.heap.size 0) := ⟨h.next ((Below.refl _ _).alloc (Nat.le_refl _) _), h.upd.size, by omega, heap_alloc_at w _⟩
  obtain ⟨i, hi⟩ : ∃ i, i = a + (b - a) / 4 := ⟨_, rfl⟩
  obtain ⟨j, hj⟩ : ∃ j, j = a + (b - a) / 4 * 2 := ⟨_, rfl⟩
  obtain ⟨k, hk⟩ : ∃ k, k = a + (b - a) / 4 * 3 := ⟨_, rfl⟩
  have E1 : Hid (((a : Int) + ((b : Int) - (a : Int)) / 4) = (i : Int)) := show _ = _ by omega
  have E2 : Hid (((a : Int) + ((b : Int) - (a : Int)) / 4 * 2) = (j : Int)) := show _ = _ by omega
  have E3 : Hid (((a : Int) + ((b : Int) - (a : Int)) / 4 * 3) = (k : Int)) := show _ = _ by omega
  have i1 : a + 2 ≤ i := by omega
  have j1 : a + 2 ≤ j := by omega
  have k1 : a + 2 ≤ k := by omega
  have i2 : i + 2 ≤ b := by omega
  have j2 : j + 2 ≤ b := by omega
  have k2 : k + 2 ≤ b := by omega
  clear h hi hj hk
  by_cases hl50 : b < a + 50
  · have dl : decide ((50 : Int) ≤ (b : Int) - (a : Int)) = false := by simp; omega
    go_enter Tryd.func91, Tryd.ntmps91
    go_wp2_with (fail)
    rw [E1.out, E2.out, E3.out]
    refine (median_any st.out (by omega) (by omega) (by omega) hn (by omega)).mono ?_
    rintro e w1 ⟨m, v, rfl, hm, hv, H1⟩
    have hm1 : a ≤ m := by omega
    have hm2 : m < b := by omega
    obtain ⟨c0, c1⟩ := H1.out.at_
    have fin := Lib.hid H1.out.rw
    clear hm H1
    by_cases hv0 : v = 0
    · subst hv0
      go_wp2_with (fail)
      go_ret2
      exact ⟨m, 1, rfl, hm1, hm2, by omega, fin⟩
    · have d0 : ((v : Int) == 0) = false := by simp; omega
      have d1 : ((v : Int) == 12) = false := by simp; omega
      go_wp2_with (fail)
      go_ret2
      exact ⟨m, 0, rfl, hm1, hm2, by omega, fin⟩
  · have dl : decide ((50 : Int) ≤ (b : Int) - (a : Int)) = true := by simp; omega
    obtain ⟨i', rfl⟩ : ∃ i', i = i' + 1 := ⟨i - 1, by omega⟩
    obtain ⟨j', rfl⟩ : ∃ j', j = j' + 1 := ⟨j - 1, by omega⟩
    obtain ⟨k', rfl⟩ : ∃ k', k = k' + 1 := ⟨k - 1, by omega⟩
    go_enter Tryd.func91, Tryd.ntmps91
    go_wp2_with (fail)
    rw [E1.out, E2.out, E3.out]
    clear E1 E2 E3
    refine (medianAdj_any st.out (by omega) hn (by omega)).mono ?_
    rintro e w1 ⟨m, v, rfl, hm1, hm2, hv, H1⟩
    go_wp2_with (fail)
    refine (medianAdj_any H1.out (by omega) hn (by omega)).mono ?_
    rintro e w2 ⟨m', v', rfl, hm1', hm2', hv', H2⟩
    go_wp2_with (fail)
    refine (medianAdj_any H2.out (by omega) hn (by omega)).mono ?_
    rintro e w3 ⟨m'', v'', rfl, hm1'', hm2'', hv'', H3⟩
    clear H1 H2
    go_wp2_with (fail)
    refine (median_any H3.out (by omega) (by omega) (by omega) hn (by omega)).mono ?_
    rintro e w4 ⟨p, u, rfl, hp, hu, H4⟩
    have p1 : a ≤ p := by omega
    have p2 : p < b := by omega
    have u1 : u ≤ 12 := by omega
    obtain ⟨c0, c1⟩ := H4.out.at_
    have fin := Lib.hid H4.out.rw
    clear hp H4 H3 hm1 hm2 hm1' hm2' hm1'' hm2'' hv hv' hv'' hu
    by_cases hv0 : u = 0
    · subst hv0
      go_wp2_with (fail)
      go_ret2
      exact ⟨p, 1, rfl, p1, p2, by omega, fin⟩
    · by_cases hv12 : u = 12
      · subst hv12
        go_wp2_with (fail)
        go_ret2
        exact ⟨p, 2, rfl, p1, p2, by omega, fin⟩
      · have d0 : ((u : Int) == 0) = false := by simp; omega
        have d1 : ((u : Int) == 12) = false := by simp; omega
        go_wp2_with (fail)
        go_ret2
        exact ⟨p, 0, rfl, p1, p2, by omega, fin⟩
end Go.Proofs.YtabeljpnmmfpgaaDoor
