/-
  Sorting a row of addresses: choosing a pivot.
  Sorting a row of addresses: the partial insertion sort, the reversed range.
  Sorting a row of addresses: the partition.
-/
import Derived.Test.YtabeljpnmmfpgaaDoorFlSort
namespace Go.Proofs.YtabeljpnmmfpgaaDoor
open Go.RowKit Go.MapKept
set_option linter.unusedVariables false
set_option linter.unusedSimpArgs false

/-- The row stands, and the count of swaps in a block of its own. -/
structure Pv (w0 w : World) (g n : Nat) (d : Nat → Int) (s v : Nat) : Prop where
  rw : Rw w0 w g n d
  new : w0.heap.size ≤ s
  ne : s ≠ g
  cell : w.heap[s]? = some (.cells #[.int .i64 (v : Int)] 3 (0, 0))
theorem Pv.drewN {w0 w : World} {g n : Nat} {d : Nat → Int} {s v : Nat} (h : Pv w0 w g n d s v) (m : Nat) : Pv w0 (w.drewN m) g n d s v := ⟨h.rw.quiet ⟨m, rfl⟩, h.new, h.ne, h.cell⟩
theorem Pv.at_ {w0 w : World} {g n : Nat} {d : Nat → Int} {s v : Nat} (h : Pv w0 w g n d s v) : w.cell? ⟨s, 0, none⟩ = some (.int .i64 (v : Int)) ∧ w.frozen? ⟨s, 0, none⟩ = false := by
  constructor
  · rw [cell_of h.cell]; rfl
  · simp [World.frozen?, h.cell]
theorem Pv.inc {w0 w : World} {g n : Nat} {d : Nat → Int} {s v : Nat} (h : Pv w0 w g n d s v) : Pv w0 (w.setCell ⟨s, 0, none⟩ (.int .i64 ((v : Int) + 1))) g n d s (v + 1) := by
  obtain ⟨⟨hu, hz, cs, h1, h2⟩, hn, hne, hc⟩ := h
  refine ⟨⟨hu.setCell (fun hl => by dsimp only at hl; omega) _, fun c0 c1 e0 e1 => hz c0 c1 e0 (by rw [heap_set_far hne.symm] at e1; exact e1), cs, ?_, h2⟩, hn, hne, ?_⟩
  · rw [heap_set_far hne.symm]; exact h1
  · rw [heap_set_cell hc]; simp

set_option maxRecDepth 100000 in
set_option maxHeartbeats 4000000 in
theorem order2_any {w0 w : World} {g n c a b : Nat} {d : Nat → Int} {s v : Nat} (h : Pv w0 w g n d s v) (ha : a < n) (hb : b < n) (hn : n ≤ 1000000000) (hv : v ≤ 1000) :
    Calls Tryd.prog 102 #[.slice (some ⟨g, 0, none⟩) n c, .int .i64 a, .int .i64 b, .pointer (some ⟨s, 0, none⟩)] w fun e w' => ∃ x y v' : Nat, e = .returned (.tuple #[.int .i64 x, .int .i64 y]) ∧ (x = a ∨ x = b) ∧ (y = a ∨ y = b) ∧ v' ≤ v + 1 ∧ Hid (Pv w0 w' g n d s v') := by
  have H := Lib.hid h
  have ca := h.rw.cell ha
  have cb := h.rw.cell hb
  obtain ⟨s0, s1⟩ := h.at_
  obtain ⟨x, hx⟩ : ∃ x, x = d a := ⟨_, rfl⟩
  obtain ⟨y, hy⟩ : ∃ y, y = d b := ⟨_, rfl⟩
  rw [← hx] at ca; rw [← hy] at cb
  have b0 : (a : Int) < (n : Int) := by omega
  have b1 : (b : Int) < (n : Int) := by omega
  clear h hx hy
  by_cases hl : y < x
  · have d1 : decide (y < x) = true := by simpa using hl
    have f : Hid (∀ m, Pv w0 ((w.drewN m).setCell ⟨s, 0, none⟩ (.int .i64 ((v : Int) + 1))) g n d s (v + 1)) := fun m => (H.out.drewN m).inc
    go_enter Tryd.func102, Tryd.ntmps102
    go_wp2_with (fail)
    go_big_quiet (first | (go_at_call 94; refine Calls.quiet_of_same (less_any _ _ _)))
    go_wp2_with (fail)
    go_ret2
    exact ⟨b, a, v + 1, rfl, .inr rfl, .inl rfl, Nat.le_refl _, f.out _⟩
  · have d1 : decide (y < x) = false := by simpa using hl
    have f : Hid (∀ m, Pv w0 (w.drewN m) g n d s v) := fun m => H.out.drewN m
    go_enter Tryd.func102, Tryd.ntmps102
    go_wp2_with (fail)
    go_big_quiet (first | (go_at_call 94; refine Calls.quiet_of_same (less_any _ _ _)))
    go_wp2_with (fail)
    go_ret2
    exact ⟨a, b, v, rfl, .inl rfl, .inr rfl, by omega, f.out _⟩

set_option maxRecDepth 100000 in
set_option maxHeartbeats 4000000 in
theorem median_any {w0 w : World} {g n c x y z : Nat} {d : Nat → Int} {s v : Nat} (h : Pv w0 w g n d s v) (hx : x < n) (hy : y < n) (hz : z < n) (hn : n ≤ 1000000000) (hv : v ≤ 900) :
    Calls Tryd.prog 100 #[.slice (some ⟨g, 0, none⟩) n c, .int .i64 x, .int .i64 y, .int .i64 z, .pointer (some ⟨s, 0, none⟩)] w fun e w' => ∃ m v' : Nat, e = .returned (.int .i64 m) ∧ (m = x ∨ m = y ∨ m = z) ∧ v' ≤ v + 3 ∧ Hid (Pv w0 w' g n d s v') := by
  have H := Lib.hid h
  clear h
  go_enter Tryd.func100, Tryd.ntmps100
  go_wp2_with (fail)
  refine (order2_any H.out hx hy hn (by omega)).mono ?_
  rintro e w1 ⟨x1, y1, v1, rfl, hx1, hy1, hv1, H1⟩
  have hy1' : y1 < n := by rcases hy1 with rfl | rfl <;> assumption
  have hx1' : x1 < n := by rcases hx1 with rfl | rfl <;> assumption
  go_wp2_with (fail)
  refine (order2_any H1.out hy1' hz hn (by omega)).mono ?_
  rintro e w2 ⟨y2, z2, v2, rfl, hy2, hz2, hv2, H2⟩
  have hy2' : y2 < n := by rcases hy2 with rfl | rfl <;> assumption
  go_wp2_with (fail)
  refine (order2_any H2.out hx1' hy2' hn (by omega)).mono ?_
  rintro e w3 ⟨x3, y3, v3, rfl, hx3, hy3, hv3, H3⟩
  have fin : y3 = x ∨ y3 = y ∨ y3 = z := by omega
  have hvf : v3 ≤ v + 3 := by omega
  clear hx1 hy1 hy2 hz2 hx3 hy3
  go_wp2_with (fail)
  go_ret
  exact ⟨y3, v3, rfl, fin, hvf, H3⟩

set_option maxRecDepth 100000 in
set_option maxHeartbeats 4000000 in
theorem medianAdj_any {w0 w : World} {g n c y : Nat} {d : Nat → Int} {s v : Nat} (h : Pv w0 w g n d s v) (hy : y + 2 < n) (hn : n ≤ 1000000000) (hv : v ≤ 900) :
    Calls Tryd.prog 99 #[.slice (some ⟨g, 0, none⟩) n c, .int .i64 ((y + 1 : Nat) : Int), .pointer (some ⟨s, 0, none⟩)] w fun e w' => ∃ m v' : Nat, e = .returned (.int .i64 m) ∧ y ≤ m ∧ m ≤ y + 2 ∧ v' ≤ v + 3 ∧ Hid (Pv w0 w' g n d s v') := by
  have md := Lib.hid (median_any (x := y) (y := y + 1) (z := y + 2) (c := c) h (by omega) (by omega) hy hn hv)
  clear h
  obtain ⟨z, hz⟩ : ∃ z, z = y + 1 := ⟨_, rfl⟩
  have E1 : Hid (((z : Nat) : Int) - 1 = (y : Int)) := show _ = _ by omega
  have E2 : Hid (((z : Nat) : Int) + 1 = ((y + 2 : Nat) : Int)) := show _ = _ by omega
  have zb : z ≤ 1000000000 := by omega
  have z0 : 1 ≤ z := by omega
  rw [← hz] at md ⊢
  clear hz
  go_enter Tryd.func99, Tryd.ntmps99
  go_wp2_with (fail)
  rw [E1.out, E2.out]
  refine md.out.mono ?_
  rintro e w1 ⟨m, v', rfl, hm, hv', H1⟩
  have m1 : y ≤ m := by have := E1.out; omega
  have m2 : m ≤ y + 2 := by have := E1.out; omega
  clear hm
  go_wp2_with (fail)
  go_ret
  exact ⟨m, v', rfl, m1, m2, hv', H1⟩

set_option maxRecDepth 100000 in
set_option maxHeartbeats 8000000 in
theorem choosePivot_any (w0 w : World) (g n c a b : Nat) (d : Nat → Int) (h : Rw w0 w g n d) (hg : g < w.heap.size) (hl8 : a + 8 ≤ b) (hb : b ≤ n) (hn : n ≤ 1000000000) :
    Calls Tryd.prog 91 #[.slice (some ⟨g, 0, none⟩) n c, .int .i64 a, .int .i64 b] w fun e w' => ∃ p k : Nat, e = .returned (.tuple #[.int .i64 p, .int .i64 k]) ∧ a ≤ p ∧ p < b ∧ k ≤ 2 ∧ Hid (Rw w0 w' g n d) := by
  have st : Hid (Pv w0 (w.alloc (.cells #[.int .i64 0] 3)) g n d w.heap.size 0) := ⟨h.next ((Below.refl _ _).alloc (Nat.le_refl _) _), h.upd.size, by omega, heap_alloc_at w _⟩
  obtain ⟨i, hi⟩ : ∃ i, i = a + (b - a) / 4 := ⟨_, rfl⟩
  obtain ⟨j, hj⟩ : ∃ j, j = a + (b - a) / 4 * 2 := ⟨_, rfl⟩
  obtain ⟨k, hk⟩ : ∃ k, k = a + (b - a) / 4 * 3 := ⟨_, rfl⟩
  have E1 : Hid (((a : Int) + ((b : Int) - (a : Int)) / 4) = (i : Int)) := show _ = _ by omega
  have E2 : Hid (((a : Int) + ((b : Int) - (a : Int)) / 4 * 2) = (j : Int)) := show _ = _ by omega
  have E3 : Hid (((a : Int) + ((b : Int) - (a : Int)) / 4 * 3) = (k : Int)) := show _ = _ by omega
  have i1 : a + 2 ≤ i := by omega
  have j1 : a + 2 ≤ j := by omega
  have k1 : a + 2 ≤ k := by omega
  have i2 : i + 2 ≤ b := by omega
  have j2 : j + 2 ≤ b := by omega
  have k2 : k + 2 ≤ b := by omega
  clear h hi hj hk
  by_cases hl50 : b < a + 50
  · have dl : decide ((50 : Int) ≤ (b : Int) - (a : Int)) = false := by simp; omega
    go_enter Tryd.func91, Tryd.ntmps91
    go_wp2_with (fail)
    rw [E1.out, E2.out, E3.out]
    refine (median_any st.out (by omega) (by omega) (by omega) hn (by omega)).mono ?_
    rintro e w1 ⟨m, v, rfl, hm, hv, H1⟩
    have hm1 : a ≤ m := by omega
    have hm2 : m < b := by omega
    obtain ⟨c0, c1⟩ := H1.out.at_
    have fin := Lib.hid H1.out.rw
    clear hm H1
    by_cases hv0 : v = 0
    · subst hv0
      go_wp2_with (fail)
      go_ret2
      exact ⟨m, 1, rfl, hm1, hm2, by omega, fin⟩
    · have d0 : ((v : Int) == 0) = false := by simp; omega
      have d1 : ((v : Int) == 12) = false := by simp; omega
      go_wp2_with (fail)
      go_ret2
      exact ⟨m, 0, rfl, hm1, hm2, by omega, fin⟩
  · have dl : decide ((50 : Int) ≤ (b : Int) - (a : Int)) = true := by simp; omega
    obtain ⟨i', rfl⟩ : ∃ i', i = i' + 1 := ⟨i - 1, by omega⟩
    obtain ⟨j', rfl⟩ : ∃ j', j = j' + 1 := ⟨j - 1, by omega⟩
    obtain ⟨k', rfl⟩ : ∃ k', k = k' + 1 := ⟨k - 1, by omega⟩
    go_enter Tryd.func91, Tryd.ntmps91
    go_wp2_with (fail)
    rw [E1.out, E2.out, E3.out]
    clear E1 E2 E3
    refine (medianAdj_any st.out (by omega) hn (by omega)).mono ?_
    rintro e w1 ⟨m, v, rfl, hm1, hm2, hv, H1⟩
    go_wp2_with (fail)
    refine (medianAdj_any H1.out (by omega) hn (by omega)).mono ?_
    rintro e w2 ⟨m', v', rfl, hm1', hm2', hv', H2⟩
    go_wp2_with (fail)
    refine (medianAdj_any H2.out (by omega) hn (by omega)).mono ?_
    rintro e w3 ⟨m'', v'', rfl, hm1'', hm2'', hv'', H3⟩
    clear H1 H2
    go_wp2_with (fail)
    refine (median_any H3.out (by omega) (by omega) (by omega) hn (by omega)).mono ?_
    rintro e w4 ⟨p, u, rfl, hp, hu, H4⟩
    have p1 : a ≤ p := by omega
    have p2 : p < b := by omega
    have u1 : u ≤ 12 := by omega
    obtain ⟨c0, c1⟩ := H4.out.at_
    have fin := Lib.hid H4.out.rw
    clear hp H4 H3 hm1 hm2 hm1' hm2' hm1'' hm2'' hv hv' hv'' hu
    by_cases hv0 : u = 0
    · subst hv0
      go_wp2_with (fail)
      go_ret2
      exact ⟨p, 1, rfl, p1, p2, by omega, fin⟩
    · by_cases hv12 : u = 12
      · subst hv12
        go_wp2_with (fail)
        go_ret2
        exact ⟨p, 2, rfl, p1, p2, by omega, fin⟩
      · have d0 : ((u : Int) == 0) = false := by simp; omega
        have d1 : ((u : Int) == 12) = false := by simp; omega
        go_wp2_with (fail)
        go_ret2
        exact ⟨p, 0, rfl, p1, p2, by omega, fin⟩
end Go.Proofs.YtabeljpnmmfpgaaDoor

namespace Go.Proofs.YtabeljpnmmfpgaaDoor
open Go.RowKit Go.MapKept
set_option linter.unusedVariables false
set_option linter.unusedSimpArgs false

theorem Asc.more {a i : Nat} {d : Nat → Int} (h : Asc a i d) (ha : a < i) (hl : d (i - 1) ≤ d i) : Asc a (i + 1) d := fun x y hx hxy hy => by
  by_cases e : y = i
  · by_cases e2 : x = i
    · rw [e, e2]; exact Int.le_refl _
    · rw [e]; exact Int.le_trans (h x (i - 1) hx (by omega) (by omega)) hl
  · exact h x y hx hxy (by omega)

theorem Asc.far {a i x y : Nat} {d : Nat → Int} (h : Asc a i d) (hx : i ≤ x) (hy : i ≤ y) : Asc a i (sw d x y) := fun u v h1 h2 h3 => by
  unfold sw
  rw [if_neg (by omega), if_neg (by omega), if_neg (by omega), if_neg (by omega)]
  exact h u v h1 h2 h3
theorem Asc.less {a i j : Nat} {d : Nat → Int} (h : Asc a i d) (hj : j ≤ i) : Asc a j d := fun u v h1 h2 h3 => h u v h1 h2 (by omega)
/-- Nothing of [a, b) is less than what stands ahead of it. -/
def Fl (a b : Nat) (d : Nat → Int) : Prop := a = 0 ∨ ∀ k, a ≤ k → k < b → d (a - 1) ≤ d k
theorem Fl.pm {a b : Nat} {d d' : Nat → Int} (h : Fl a b d) (hp : Pm a b d d') : Fl a b d' := by
  rcases h with h | h
  · exact .inl h
  · by_cases a0 : a = 0
    · exact .inl a0
    · refine .inr (fun k h1 h2 => ?_)
      rw [hp.out (a - 1) (by omega)]
      exact hp.all (Q := fun v => d (a - 1) ≤ v) h k h1 h2

set_option maxRecDepth 100000 in
set_option maxHeartbeats 8000000 in
theorem reverse_any (w : World) (g n c a b : Nat) (d : Nat → Int) (h : Rw w w g n d) (hab : a + 1 ≤ b) (hb : b ≤ n) (hn : n < 65536) :
    Calls Tryd.prog 92 #[.slice (some ⟨g, 0, none⟩) n c, .int .i64 a, .int .i64 b] w fun e w' => e = .returned (.tuple #[]) ∧ Hid (∃ d', Rw w w' g n d' ∧ Pm a b d d') := by
  obtain ⟨q, hq⟩ : ∃ q, b = q + 1 := ⟨b - 1, by omega⟩
  have EQ : Hid ((b : Int) - 1 = (q : Int)) := show _ = _ by omega
  have EB := Lib.hid hq
  have q1 : a ≤ q := by omega
  have q2 : q < n := by omega
  have H := Lib.hid h
  clear h hq
  go_enter Tryd.func92, Tryd.ntmps92
  go_wp2_with (fail)
  rw [EQ.out]
  go_loopw [6, 7] (fun u v wr => ∃ i j : Nat, u = .int .i64 i ∧ v = .int .i64 ((j : Int) - 1) ∧ a ≤ i ∧ a ≤ j ∧ j ≤ q + 1 ∧ i ≤ q + 1 ∧ ∃ e, Hid (Rw w wr g n e ∧ Pm a b d e)) (fun u _ _ => q + 1 - (intOf u).toNat)
  case atStart => exact ⟨a, q + 1, rfl, by congr 1; omega, Nat.le_refl _, by omega, Nat.le_refl _, by omega, d, H.out, Pm.refl _ _ _⟩
  case round =>
    obtain ⟨i, j, rfl, rfl, hi, hj, hjq, hiq, e, hrel⟩ := hrel
    by_cases hlt : i + 1 < j
    · obtain ⟨m, rfl⟩ : ∃ m, j = m + 1 := ⟨j - 1, by omega⟩
      have E1 : Hid ((((m + 1 : Nat) : Int)) - 1 = (m : Int)) := show _ = _ by omega
      rw [E1.out]
      have f0 := hrel.out.1.free
      have ci := hrel.out.1.cell (j := i) (by omega)
      have cm := hrel.out.1.cell (j := m) (by omega)
      obtain ⟨x, hx⟩ : ∃ x, x = e i := ⟨_, rfl⟩
      obtain ⟨y, hy⟩ : ∃ y, y = e m := ⟨_, rfl⟩
      rw [← hx] at ci; rw [← hy] at cm
      have sv := (hrel.out.1.set i y).cell (j := m) (by omega)
      obtain ⟨vv, hvv⟩ : ∃ vv, (wr.setCell ⟨g, i, none⟩ (.int .u16 y)).cell? ⟨g, m, none⟩ = some vv := ⟨_, sv⟩
      have b0 : (i : Int) < (n : Int) := by omega
      have b1 : (m : Int) < (n : Int) := by omega
      have dg : decide ((i : Int) < (m : Int)) = true := by simp; omega
      have nxt : Hid (∀ W', W' = ((wr.setCell ⟨g, i, none⟩ (.int .u16 y)).setCell ⟨g, m, none⟩ (.int .u16 x)).drew → Rw w W' g n (sw e i m) ∧ Pm a b d (sw e i m)) := by
        rintro W' rfl
        rw [hx, hy]
        have eb := EB.out
        exact ⟨(hrel.out.1.swap i m).quiet ⟨1, rfl⟩, hrel.out.2.swap (by omega) (by omega) (by omega) (by omega)⟩
      clear hx hy sv
      go_wp2_with (fail)
      go_region
      all_goals
        go_wp2_with (fail)
        go_roundw
        case rel => exact ⟨i + 1, m, by go_num, rfl, by omega, by omega, by omega, by omega, _, nxt.out _ rfl⟩
        case measure => first | (simp [intOf]; done) | (simp [intOf]; omega)
    · have dg : decide ((i : Int) < (j : Int) - 1) = false := by simp; omega
      have fin : Hid (∃ d', Rw w wr g n d' ∧ Pm a b d d') := ⟨e, hrel.out⟩
      go_wp2_with (fail)
      first | go_end0 | refine bodyPost_ret (results_none rfl _ _ _) rfl ?_
      exact ⟨rfl, fin.out⟩

/-- What the partial insertion sort leaves. -/
def PPost (w : World) (g n a b : Nat) (d : Nat → Int) (e : Ending) (w' : World) : Prop := ∃ r : Bool, e = .returned (.bool r) ∧ ∃ d', Rw w w' g n d' ∧ Pm a b d d' ∧ (r = true → Asc a b d')
theorem PPost.yes {w w' : World} {g n a b : Nat} {d : Nat → Int} (h : ∃ d', Rw w w' g n d' ∧ Pm a b d d' ∧ Asc a b d') : PPost w g n a b d (.returned (.bool true)) w' := by
  obtain ⟨d', h1, h2, h3⟩ := h
  exact ⟨true, rfl, d', h1, h2, fun _ => h3⟩
theorem PPost.no {w w' : World} {g n a b : Nat} {d : Nat → Int} (h : ∃ d', Rw w w' g n d' ∧ Pm a b d d') : PPost w g n a b d (.returned (.bool false)) w' := by
  obtain ⟨d', h1, h2⟩ := h
  exact ⟨false, rfl, d', h1, h2, fun h => by cases h⟩

set_option maxRecDepth 100000 in
set_option maxHeartbeats 16000000 in
theorem partialIns_any (w : World) (g n c a b : Nat) (d : Nat → Int) (h : Rw w w g n d) (hfl : Fl a b d) (hab : a < b) (hb : b ≤ n) (hn : n < 65536) :
    Calls Tryd.prog 93 #[.slice (some ⟨g, 0, none⟩) n c, .int .i64 a, .int .i64 b] w fun e w' => PPost w g n a b d e w' := by
  have H := Lib.hid h
  have FL := Lib.hid hfl
  clear h hfl
  go_enter Tryd.func93, Tryd.ntmps93
  go_wp2_with (fail)
  go_loopw [7, 8] (fun p q wr => ∃ i k : Nat, p = .int .i64 i ∧ q = .int .i64 k ∧ k ≤ 5 ∧ a + 1 ≤ i ∧ i ≤ b ∧ ∃ e, Hid (Rw w wr g n e ∧ Pm a b d e ∧ Asc a i e)) (fun _ q _ => 5 - (intOf q).toNat)
  case atStart => exact ⟨a + 1, 0, by go_num, rfl, by omega, Nat.le_refl _, by omega, d, H.out, Pm.refl _ _ _, asc_one a d⟩
  case round =>
    obtain ⟨i0, k, rfl, rfl, hk, hi1, hi2, e, hrel⟩ := hrel
    by_cases hk5 : k < 5
    · have dk : decide ((k : Int) < 5) = true := by simp; omega
      go_upto_block 2 with (fail)
      go_cut [7] (fun p wx => ∃ i : Nat, p = .int .i64 i ∧ i0 ≤ i ∧ i ≤ b ∧ Hid (Rw w wx g n e ∧ Asc a i e) ∧ Hid (i = b ∨ (i < b ∧ e i < e (i - 1))))
      case first =>
        go_wp2_with (fail)
        go_loopw [7] (fun p wr => ∃ i : Nat, p = .int .i64 i ∧ i0 ≤ i ∧ i ≤ b ∧ Hid (Rw w wr g n e ∧ Asc a i e)) (fun p _ => b - (intOf p).toNat)
        case atStart => exact ⟨i0, rfl, Nat.le_refl _, hi2, hrel.out.1, hrel.out.2.2⟩
        case round =>
          obtain ⟨i, rfl, hi3, hi4, hr⟩ := hrel
          by_cases hlt : i < b
          · obtain ⟨m, rfl⟩ : ∃ m, i = m + 1 := ⟨i - 1, by omega⟩
            have c0 := hr.out.1.cell (j := m + 1) (by omega)
            have c1 := hr.out.1.cell (j := m) (by omega)
            obtain ⟨x, hx⟩ : ∃ x, x = e (m + 1) := ⟨_, rfl⟩
            obtain ⟨y, hy⟩ : ∃ y, y = e m := ⟨_, rfl⟩
            rw [← hx] at c0; rw [← hy] at c1
            have HX := Lib.hid hx; have HY := Lib.hid hy
            have dg : decide ((m : Int) + 1 < (b : Int)) = true := by simp; omega
            have b0 : (0 : Int) ≤ (m : Int) + 1 := by omega
            have b1 : (m : Int) + 1 < (n : Int) := by omega
            have b2 : (m : Int) < (n : Int) := by omega
            have wm := wrapN m (by omega)
            clear hx hy
            by_cases hl : x < y
            · have d1 : decide (x < y) = true := by simpa using hl
              have out : Hid (∀ nq, Rw w (wr.drewN nq) g n e ∧ Asc a (m + 1) e) := fun nq => ⟨hr.out.1.quiet ⟨nq, rfl⟩, hr.out.2⟩
              have ex : Hid (m + 1 = b ∨ (m + 1 < b ∧ e (m + 1) < e (m + 1 - 1))) := .inr ⟨hlt, by rw [Nat.add_sub_cancel, ← HX.out, ← HY.out]; exact hl⟩
              go_wp2_with (fail)
              go_big_quiet (first | (go_at_call 94; refine Calls.quiet_of_same (less_any _ _ _)))
              go_wp2_with (fail)
              go_meet
              exact ⟨m + 1, by go_num, hi3, hi4, out.out _, ex⟩
            · have d1 : decide (x < y) = false := by simpa using hl
              have nxt : Hid (∀ nq, Rw w (wr.drewN nq) g n e ∧ Asc a (m + 1 + 1) e) := fun nq => ⟨hr.out.1.quiet ⟨nq, rfl⟩, hr.out.2.more (by omega) (by rw [Nat.add_sub_cancel, ← HX.out, ← HY.out]; omega)⟩
              go_wp2_with (fail)
              go_big_quiet (first | (go_at_call 94; refine Calls.quiet_of_same (less_any _ _ _)))
              go_wp2_with (fail)
              go_roundw
              case rel => exact ⟨m + 1 + 1, by go_num, by omega, by omega, nxt.out _⟩
              case measure => first | (simp [intOf]; done) | (simp [intOf]; omega)
          · have dg : decide ((i : Int) < (b : Int)) = false := by simp; omega
            have out : Hid (∀ nq, Rw w (wr.drewN nq) g n e ∧ Asc a i e) := fun nq => ⟨hr.out.1.quiet ⟨nq, rfl⟩, hr.out.2⟩
            have ex : Hid (i = b ∨ (i < b ∧ e i < e (i - 1))) := .inl (by omega)
            clear hr
            go_wp2_with (fail)
            go_big_quiet (first | (go_at_call 94; refine Calls.quiet_of_same (less_any _ _ _)))
            go_wp2_with (fail)
            go_meet
            exact ⟨i, rfl, hi3, hi4, out.out _, ex⟩
      case rest =>
        obtain ⟨i, rfl, hi3, hi4, R, X⟩ := hcut
        obtain ⟨W1, hW1⟩ : ∃ W1, W1 = wc := ⟨_, rfl⟩
        rw [← hW1] at R ⊢
        clear hW1
        have P := Lib.hid hrel.out.2.1
        clear hrel
        by_cases hib : i = b
        · have fin : Hid (∃ d', Rw w W1 g n d' ∧ Pm a b d d' ∧ Asc a b d') := ⟨e, R.out.1, P.out, by have := R.out.2; rw [hib] at this; exact this⟩
          have dg : ((i : Int) == (b : Int)) = true := by simp; omega
          clear hib
          go_wp2_with (fail)
          go_ret
          exact PPost.yes fin.out
        · have dg : ((i : Int) == (b : Int)) = false := by simp; omega
          by_cases hl50 : b < a + 50
          · have fin : Hid (∃ d', Rw w W1 g n d' ∧ Pm a b d d') := ⟨e, R.out.1, P.out⟩
            have dl : decide ((b : Int) - (a : Int) < 50) = true := by simp; omega
            go_wp2_with (fail)
            go_ret
            exact PPost.no fin.out
          · have dl : decide ((b : Int) - (a : Int) < 50) = false := by simp; omega
            have hlt : e i < e (i - 1) := by have := X.out; omega
            obtain ⟨m, rfl⟩ : ∃ m, i = m + 1 := ⟨i - 1, by omega⟩
            rw [Nat.add_sub_cancel] at hlt
            have f0 := R.out.1.free
            have ci := R.out.1.cell (j := m + 1) (by omega)
            have cm := R.out.1.cell (j := m) (by omega)
            obtain ⟨x, hx⟩ : ∃ x, x = e (m + 1) := ⟨_, rfl⟩
            obtain ⟨y, hy⟩ : ∃ y, y = e m := ⟨_, rfl⟩
            rw [← hx] at ci; rw [← hy] at cm
            have sv := (R.out.1.set (m + 1) y).cell (j := m) (by omega)
            obtain ⟨vv, hvv⟩ : ∃ vv, (W1.setCell ⟨g, m + 1, none⟩ (.int .u16 y)).cell? ⟨g, m, none⟩ = some vv := ⟨_, sv⟩
            have b0 : (0 : Int) ≤ (m : Int) + 1 := by omega
            have b1 : (m : Int) + 1 < (n : Int) := by omega
            have b2 : (m : Int) < (n : Int) := by omega
            have wm := wrapN m (by omega)
            have nxt : Hid (∀ W', W' = ((W1.setCell ⟨g, m + 1, none⟩ (.int .u16 y)).setCell ⟨g, m, none⟩ (.int .u16 x)).drew → Rw w W' g n (sw e (m + 1) m) ∧ Pm a b d (sw e (m + 1) m) ∧ Asc a m (sw e (m + 1) m)) := by
              rintro W' rfl
              rw [hx, hy]
              exact ⟨(R.out.1.swap (m + 1) m).quiet ⟨1, rfl⟩, P.out.swap (by omega) (by omega) (by omega) (by omega), (R.out.2.less (by omega)).far (by omega) (by omega)⟩
            clear hx hy sv hlt
            go_wp2_with (fail)
            go_region
            all_goals
              have N1 := Lib.hid (nxt.out _ rfl)
              obtain ⟨e2, he2⟩ : ∃ e2, e2 = sw e (m + 1) m := ⟨_, rfl⟩
              rw [← he2] at N1
              clear he2 ci cm f0 hvv nxt R P X
              go_upto_if 61 with (fail)
              go_cut [] (fun wx => ∃ e3, Hid (Rw w wx g n e3 ∧ Pm a b d e3 ∧ Asc a (m + 1) e3))
              case first =>
                by_cases h2 : a < m
                · have dg2 : decide ((2 : Int) ≤ (m : Int) + 1 - (a : Int)) = true := by simp; omega
                  go_wp2_with (fail)
                  go_loopw [9] (fun p wr => ∃ j : Nat, p = .int .i64 j ∧ a ≤ j ∧ j ≤ m ∧ ∃ e3, Hid (Rw w wr g n e3 ∧ Pm a b d e3 ∧ Ins a m j e3)) (fun p _ => (intOf p).toNat)
                  case atStart => exact ⟨m, by go_num, by omega, Nat.le_refl _, e2, N1.out.1, N1.out.2.1, Ins.start N1.out.2.2⟩
                  case round =>
                    obtain ⟨j, rfl, hj1, hj2, e3, hr⟩ := hrel
                    by_cases hj0 : j = 0
                    · subst hj0
                      have fin : Hid (Rw w wr g n e3 ∧ Pm a b d e3 ∧ Asc a (m + 1) e3) := ⟨hr.out.1, hr.out.2.1, hr.out.2.2.close (.inl (by omega)) hj2⟩
                      clear hr
                      go_wp2_with (fail)
                      go_meet
                      exact ⟨e3, fin⟩
                    · obtain ⟨l, rfl⟩ : ∃ l, j = l + 1 := ⟨j - 1, by omega⟩
                      have f0 := hr.out.1.free
                      have c0 := hr.out.1.cell (j := l + 1) (by omega)
                      have c1 := hr.out.1.cell (j := l) (by omega)
                      obtain ⟨u, hu⟩ : ∃ u, u = e3 (l + 1) := ⟨_, rfl⟩
                      obtain ⟨v, hv⟩ : ∃ v, v = e3 l := ⟨_, rfl⟩
                      rw [← hu] at c0; rw [← hv] at c1
                      have HU := Lib.hid hu; have HV := Lib.hid hv
                      have z0 : (0 : Int) ≤ (l : Int) + 1 := by omega
                      have z1 : (l : Int) + 1 < (n : Int) := by omega
                      have z2 : (l : Int) < (n : Int) := by omega
                      have z3 : decide ((1 : Int) ≤ (l : Int) + 1) = true := by simp; omega
                      have wl := wrapN l (by omega)
                      clear hu hv
                      by_cases hl : u < v
                      · have hal : a ≤ l := by
                          rcases Nat.lt_or_ge l a with h | h
                          · have ea : l + 1 = a := by omega
                            rcases FL.out.pm hr.out.2.1 with f | f
                            · omega
                            · have := f (l + 1) (by omega) (by omega)
                              rw [show a - 1 = l by omega, ← HU.out, ← HV.out] at this
                              omega
                          · exact h
                        have d1 : decide (u < v) = true := by simpa using hl
                        have nx3 : Hid (∀ nq W', W' = (((wr.drewN nq).setCell ⟨g, l + 1, none⟩ (.int .u16 v)).setCell ⟨g, l, none⟩ (.int .u16 u)) → Rw w W' g n (sw e3 (l + 1) l) ∧ Pm a b d (sw e3 (l + 1) l) ∧ Ins a m l (sw e3 (l + 1) l)) := by
                          rintro nq W' rfl
                          have q : Rw w (wr.drewN nq) g n e3 := hr.out.1.quiet ⟨nq, rfl⟩
                          have := q.swap (l + 1) l
                          rw [HU.out, HV.out]
                          exact ⟨this, hr.out.2.1.swap (by omega) (by omega) (by omega) (by omega), hr.out.2.2.step hal hj2 (by rw [← HU.out, ← HV.out]; exact hl)⟩
                        go_wp2_with (fail)
                        go_big_quiet (first | (go_at_call 94; refine Calls.quiet_of_same (less_any _ _ _)))
                        go_wp2_with (fail)
                        go_region
                        all_goals
                          go_wp2_with (fail)
                          go_roundw
                          case rel => exact ⟨l, by go_num, hal, by omega, _, nx3.out _ _ rfl⟩
                          case measure => first | (simp [intOf]; done) | (simp [intOf]; omega)
                      · have d1 : decide (u < v) = false := by simpa using hl
                        have fin : Hid (∀ nq, Rw w (wr.drewN nq) g n e3 ∧ Pm a b d e3 ∧ Asc a (m + 1) e3) := fun nq => by
                          refine ⟨hr.out.1.quiet ⟨nq, rfl⟩, hr.out.2.1, hr.out.2.2.close ?_ hj2⟩
                          by_cases ea : l + 1 = a
                          · exact .inl ea
                          · exact .inr ⟨by omega, by rw [Nat.add_sub_cancel, ← HU.out, ← HV.out]; omega⟩
                        go_wp2_with (fail)
                        go_big_quiet (first | (go_at_call 94; refine Calls.quiet_of_same (less_any _ _ _)))
                        go_wp2_with (fail)
                        go_meet
                        exact ⟨e3, fin.out _⟩
                · have dg2 : decide ((2 : Int) ≤ (m : Int) + 1 - (a : Int)) = false := by simp; omega
                  have fin : Hid (∃ e3, Hid (Rw w (World.drew _) g n e3 ∧ Pm a b d e3 ∧ Asc a (m + 1) e3)) := ⟨e2, N1.out.1, N1.out.2.1, by rw [show m = a by omega]; exact asc_one a e2⟩
                  clear N1
                  go_wp2_with (fail)
                  go_meet
                  exact fin.out
              case rest =>
                obtain ⟨e3, N3⟩ := hcut
                clear N1
                obtain ⟨W3, hW3⟩ : ∃ W3, W3 = wc := ⟨_, rfl⟩
                rw [← hW3] at N3 ⊢
                clear hW3
                go_upto_if 98 with (fail)
                by_cases h2 : m + 2 < b
                · have dg2 : decide ((2 : Int) ≤ (b : Int) - ((m : Int) + 1)) = true := by simp; omega
                  go_wp2_with (fail)
                  go_loopw [10] (fun p wr => ∃ j : Nat, p = .int .i64 ((j : Int) + 1) ∧ m + 1 ≤ j ∧ j + 1 ≤ b ∧ ∃ e4, Hid (Rw w wr g n e4 ∧ Pm a b d e4 ∧ Asc a (m + 1) e4)) (fun p _ => b - (intOf p).toNat)
                  case atStart => exact ⟨m + 1, by go_num, Nat.le_refl _, by omega, e3, N3.out⟩
                  case round =>
                    obtain ⟨j, rfl, hj1, hj2, e4, hr.out⟩ := hrel
                    by_cases hjb : j + 1 < b
                    · have f0 := hr.out.1.free
                      have c0 := hr.out.1.cell (j := j + 1) (by omega)
                      have c1 := hr.out.1.cell (j := j) (by omega)
                      obtain ⟨u, hu⟩ : ∃ u, u = e4 (j + 1) := ⟨_, rfl⟩
                      obtain ⟨v, hv⟩ : ∃ v, v = e4 j := ⟨_, rfl⟩
                      rw [← hu] at c0; rw [← hv] at c1
                      have HU := Lib.hid hu; have HV := Lib.hid hv
                      have z0 : (0 : Int) ≤ (j : Int) + 1 := by omega
                      have z1 : (j : Int) + 1 < (n : Int) := by omega
                      have z2 : (j : Int) < (n : Int) := by omega
                      have z3 : decide ((j : Int) + 1 < (b : Int)) = true := by simp; omega
                      have wl := wrapN j (by omega)
                      clear hu hv
                      by_cases hl : u < v
                      · have d1 : decide (u < v) = true := by simpa using hl
                        have nx3 : Hid (∀ nq W', W' = (((wr.drewN nq).setCell ⟨g, j + 1, none⟩ (.int .u16 v)).setCell ⟨g, j, none⟩ (.int .u16 u)) → Rw w W' g n (sw e4 (j + 1) j) ∧ Pm a b d (sw e4 (j + 1) j) ∧ Asc a (m + 1) (sw e4 (j + 1) j)) := by
                          rintro nq W' rfl
                          have q : Rw w (wr.drewN nq) g n e4 := hr.out.1.quiet ⟨nq, rfl⟩
                          have := q.swap (j + 1) j
                          rw [HU.out, HV.out]
                          exact ⟨this, hr.out.2.1.swap (by omega) (by omega) (by omega) (by omega), hr.out.2.2.far (by omega) (by omega)⟩
                        go_wp2_with (fail)
                        go_big_quiet (first | (go_at_call 94; refine Calls.quiet_of_same (less_any _ _ _)))
                        go_wp2_with (fail)
                        go_region
                        all_goals
                          go_wp2_with (fail)
                          go_roundw
                          case rel => exact ⟨j + 1, by go_num, by omega, by omega, _, nx3.out _ _ rfl⟩
                          case measure => first | (simp [intOf]; done) | (simp [intOf]; omega)
                      · have d1 : decide (u < v) = false := by simpa using hl
                        have fin : Hid (∀ nq, Rw w (wr.drewN nq) g n e4 ∧ Pm a b d e4 ∧ Asc a (m + 1) e4) := fun nq => ⟨hr.out.1.quiet ⟨nq, rfl⟩, hr.out.2⟩
                        go_wp2_with (fail)
                        go_big_quiet (first | (go_at_call 94; refine Calls.quiet_of_same (less_any _ _ _)))
                        go_wp2_with (fail)
                        go_roundw
                        case rel => exact ⟨m + 1, k + 1, by go_num, by go_num, by omega, by omega, by omega, e4, (fin.out _)⟩
                        case measure => first | (simp [intOf]; done) | (simp [intOf]; omega)
                    · have z3 : decide ((j : Int) + 1 < (b : Int)) = false := by simp; omega
                      go_wp2_with (fail)
                      go_roundw
                      case rel => exact ⟨m + 1, k + 1, by go_num, by go_num, by omega, by omega, by omega, e4, hr.out⟩
                      case measure => first | (simp [intOf]; done) | (simp [intOf]; omega)
                · have dg2 : decide ((2 : Int) ≤ (b : Int) - ((m : Int) + 1)) = false := by simp; omega
                  go_wp2_with (fail)
                  go_roundw
                  case rel => exact ⟨m + 1, k + 1, by go_num, by go_num, by omega, by omega, by omega, e3, N3.out⟩
                  case measure => first | (simp [intOf]; done) | (simp [intOf]; omega)
    · have dk : decide ((k : Int) < 5) = false := by simp; omega
      have fin : Hid (∃ d', Rw w wr g n d' ∧ Pm a b d d') := ⟨e, hrel.out.1, hrel.out.2.1⟩
      go_wp2_with (fail)
      go_ret
      exact PPost.no fin.out
end Go.Proofs.YtabeljpnmmfpgaaDoor

namespace Go.Proofs.YtabeljpnmmfpgaaDoor
open Go.RowKit Go.MapKept
set_option linter.unusedVariables false
set_option linter.unusedSimpArgs false

/-- While the partition runs: the pivot lies at a, what is less ahead of i, what is not behind j. -/
structure Pt (w W : World) (g n : Nat) (d : Nat → Int) (a b i j : Nat) (x : Int) (e : Nat → Int) : Prop where
  rw : Rw w W g n e
  pm : Pm a b d e
  piv : e a = x
  lo : ∀ k, a + 1 ≤ k → k < i → e k < x
  hi : ∀ k, j < k → k < b → x ≤ e k
  ai : a + 1 ≤ i
  ij : i ≤ j + 1
  jb : j < b
theorem Pt.drewN {w W : World} {g n : Nat} {d : Nat → Int} {a b i j : Nat} {x : Int} {e : Nat → Int} (h : Pt w W g n d a b i j x e) (m : Nat) : Pt w (W.drewN m) g n d a b i j x e := { h with rw := h.rw.quiet ⟨m, rfl⟩ }
theorem Pt.start {w W : World} {g n : Nat} {d : Nat → Int} {a b p : Nat} (h : Rw w W g n (sw d a p)) (ha : a ≤ p) (hp : p < b) : Pt w W g n d a b (a + 1) (b - 1) (d p) (sw d a p) :=
  ⟨h, (Pm.refl _ _ _).swap (Nat.le_refl _) (by omega) ha hp, by unfold sw; rw [if_pos rfl], fun k h1 h2 => by omega, fun k h1 h2 => by omega, Nat.le_refl _, by omega, by omega⟩
theorem Pt.up {w W : World} {g n : Nat} {d : Nat → Int} {a b i j : Nat} {x : Int} {e : Nat → Int} (h : Pt w W g n d a b i j x e) (hij : i ≤ j) (hl : e i < x) : Pt w W g n d a b (i + 1) j x e :=
  { h with lo := fun k h1 h2 => by
             by_cases ek : k = i
             · rw [ek]; exact hl
             · exact h.lo k h1 (by omega)
           ai := by have := h.ai; omega
           ij := by omega }
theorem Pt.down {w W : World} {g n : Nat} {d : Nat → Int} {a b i j : Nat} {x : Int} {e : Nat → Int} (h : Pt w W g n d a b i (j + 1) x e) (hij : i ≤ j + 1) (hl : x ≤ e (j + 1)) : Pt w W g n d a b i j x e :=
  { h with hi := fun k h1 h2 => by
             by_cases ek : k = j + 1
             · rw [ek]; exact hl
             · exact h.hi k (by omega) h2
           ij := hij
           jb := by have := h.jb; omega }
theorem Pt.swap {w W W' : World} {g n : Nat} {d : Nat → Int} {a b i j : Nat} {x : Int} {e : Nat → Int} (h : Pt w W g n d a b i (j + 1) x e) (hij : i < j + 1) (hi : x ≤ e i) (hj : e (j + 1) < x) (hr : Rw w W' g n (sw e i (j + 1))) : Pt w W' g n d a b (i + 1) j x (sw e i (j + 1)) := by
  have h1 := h.ai; have h2 := h.jb
  refine ⟨hr, h.pm.swap (by omega) (by omega) (by omega) h2, ?_, ?_, ?_, by omega, by omega, by omega⟩
  · unfold sw; rw [if_neg (by omega), if_neg (by omega)]; exact h.piv
  · intro k k1 k2
    unfold sw
    by_cases e1 : k = i
    · rw [if_pos e1]; exact hj
    · rw [if_neg e1, if_neg (by omega)]; exact h.lo k k1 (by omega)
  · intro k k1 k2
    unfold sw
    rw [if_neg (by omega)]
    by_cases e2 : k = j + 1
    · rw [if_pos e2]; exact hi
    · rw [if_neg e2]; exact h.hi k (by omega) k2

/-- What the partition leaves. -/
structure PtEnd (w W : World) (g n : Nat) (d : Nat → Int) (a b m : Nat) (e : Nat → Int) : Prop where
  rw : Rw w W g n e
  pm : Pm a b d e
  am : a ≤ m
  mb : m < b
  lo : ∀ k, a ≤ k → k < m → e k < e m
  hi : ∀ k, m < k → k < b → e m ≤ e k
theorem Pt.done {w W W' : World} {g n : Nat} {d : Nat → Int} {a b i j : Nat} {x : Int} {e : Nat → Int} (h : Pt w W g n d a b i j x e) (hij : j < i) (hr : Rw w W' g n (sw e j a)) : PtEnd w W' g n d a b j (sw e j a) := by
  have h1 := h.ai; have h2 := h.jb; have h3 := h.ij
  have em : sw e j a j = x := by unfold sw; rw [if_pos rfl]; exact h.piv
  refine ⟨hr, h.pm.swap (by omega) h2 (Nat.le_refl _) (by omega), by omega, h2, ?_, ?_⟩
  · intro k k1 k2
    rw [em]
    unfold sw
    rw [if_neg (by omega)]
    by_cases e2 : k = a
    · rw [if_pos e2]; exact h.lo j (by omega) (by omega)
    · rw [if_neg e2]; exact h.lo k (by omega) (by omega)
  · intro k k1 k2
    rw [em]
    unfold sw
    rw [if_neg (by omega), if_neg (by omega)]
    exact h.hi k k1 k2

set_option maxRecDepth 100000 in
set_option maxHeartbeats 8000000 in
theorem partition_any (w : World) (g n c a b p : Nat) (d : Nat → Int) (h : Rw w w g n d) (hap : a ≤ p) (hpb : p < b) (hb : b ≤ n) (hn : n ≤ 1000000000) :
    Calls Tryd.prog 96 #[.slice (some ⟨g, 0, none⟩) n c, .int .i64 a, .int .i64 b, .int .i64 p] w fun e w' => ∃ (m : Nat) (r : Bool), e = .returned (.tuple #[.int .i64 m, .bool r]) ∧ Hid (∃ e, PtEnd w w' g n d a b m e) := by
  obtain ⟨q, hq⟩ : ∃ q, b = q + 1 := ⟨b - 1, by omega⟩
  have H := Lib.hid h
  have ca := h.cell (j := a) (by omega)
  have cp := h.cell (j := p) (by omega)
  have f0 := h.free
  obtain ⟨y0, hx⟩ : ∃ y0, y0 = d a := ⟨_, rfl⟩
  obtain ⟨x, hy⟩ : ∃ x, x = d p := ⟨_, rfl⟩
  have b0 : (a : Int) < (n : Int) := by omega
  have b1 : (p : Int) < (n : Int) := by omega
  have sv := (h.set a x).cell (j := p) (by omega)
  obtain ⟨vv, hvv⟩ : ∃ vv, (w.setCell ⟨g, a, none⟩ (.int .u16 x)).cell? ⟨g, p, none⟩ = some vv := ⟨_, sv⟩
  have st : Hid (∀ W', W' = ((w.setCell ⟨g, a, none⟩ (.int .u16 x)).setCell ⟨g, p, none⟩ (.int .u16 y0)).drew → Pt w W' g n d a b (a + 1) q x (sw d a p)) := by
    rintro W' rfl
    rw [hx, hy]
    have h2 := Pt.start (b := b) ((h.swap a p).quiet ⟨1, rfl⟩) hap hpb
    rw [show b - 1 = q by omega] at h2
    exact h2
  rw [← hx] at ca; rw [← hy] at cp
  have HQ : Hid ((b : Int) - 1 = (q : Int)) := show _ = _ by omega
  clear h hx hy sv hq
  go_enter Tryd.func96, Tryd.ntmps96
  go_wp2_with (fail)
  go_region
  all_goals
    have P0 := Lib.hid (st.out _ rfl)
    obtain ⟨e1, he1⟩ : ∃ e1, e1 = sw d a p := ⟨_, rfl⟩
    rw [← he1] at P0
    clear st ca cp f0 hvv he1
    go_upto_region 2 with (fail)
    go_cut [10, 11] (fun u v wx => u = .int .i64 ((a : Int) + 1) ∧ v = .int .i64 (q : Int) ∧ Hid (Pt w wx g n d a b (a + 1) q x e1))
    case first =>
      go_wp2_with (fail)
      go_meet
      exact ⟨rfl, by first | rw [HQ.out] | rfl, P0⟩
    case rest =>
      obtain ⟨rfl, rfl, P0⟩ := hcut
      go_upto_block 0 with (fail)
      go_cut [10] (fun p wx => ∃ i : Nat, p = .int .i64 i ∧ a + 1 ≤ i ∧ Hid (Pt w wx g n d a b i q x e1) ∧ Hid (q < i ∨ x ≤ e1 i))
      case first =>
        go_wp2_with (fail)
        go_loopw [10] (fun p wr => ∃ i : Nat, p = .int .i64 i ∧ a + 1 ≤ i ∧ Hid (Pt w wr g n d a b i q x e1)) (fun p _ => b - (intOf p).toNat)
        case atStart => exact ⟨a + 1, by go_num, Nat.le_refl _, P0⟩
        case round =>
          obtain ⟨i, rfl, hi0, hr⟩ := hrel
          have q1 := hr.out.ai
          have q2 := hr.out.jb
          have q3 := hr.out.ij
          by_cases hij : i ≤ q
          · have ci := hr.out.rw.cell (j := i) (by omega)
            have cx := hr.out.rw.cell (j := a) (by omega)
            rw [hr.out.piv] at cx
            obtain ⟨y, hy⟩ : ∃ y, y = e1 i := ⟨_, rfl⟩
            rw [← hy] at ci
            have HY := Lib.hid hy
            have dg : decide ((i : Int) ≤ (q : Int)) = true := by simp; omega
            have z0 : (i : Int) < (n : Int) := by omega
            have z1 : (a : Int) < (n : Int) := by omega
            clear hy
            by_cases hl : y < x
            · have d1 : decide (y < x) = true := by simpa using hl
              have nxt : Hid (∀ nq, Pt w (wr.drewN nq) g n d a b (i + 1) q x e1) := fun nq => (hr.out.drewN nq).up hij (by rw [← HY.out]; exact hl)
              go_wp2_with (fail)
              go_big_quiet (first | (go_at_call 94; refine Calls.quiet_of_same (less_any _ _ _)))
              go_wp2_with (fail)
              go_roundw
              case rel => exact ⟨i + 1, by go_num, by omega, nxt.out _⟩
              case measure => first | (simp [intOf]; done) | (simp [intOf]; omega)
            · have d1 : decide (y < x) = false := by simpa using hl
              have out : Hid (∀ nq, Pt w (wr.drewN nq) g n d a b i q x e1) := fun nq => hr.out.drewN nq
              have ex : Hid (q < i ∨ x ≤ e1 i) := .inr (by rw [← HY.out]; omega)
              go_wp2_with (fail)
              go_big_quiet (first | (go_at_call 94; refine Calls.quiet_of_same (less_any _ _ _)))
              go_wp2_with (fail)
              go_meet
              exact ⟨i, rfl, hi0, out.out _, ex⟩
          · have out : Hid (∀ nq, Pt w (wr.drewN nq) g n d a b i q x e1) := fun nq => hr.out.drewN nq
            have ex : Hid (q < i ∨ x ≤ e1 i) := .inl (by omega)
            clear hr q1 q2 q3
            go_wp2_with (fail)
            go_big_quiet (first | (go_at_call 94; refine Calls.quiet_of_same (less_any _ _ _)))
            go_wp2_with (fail)
            go_meet
            exact ⟨i, rfl, hi0, out.out _, ex⟩
      case rest =>
        obtain ⟨i1, rfl, hi1, P0, X1⟩ := hcut
        go_upto_block 2 with (fail)
        go_cut [11] (fun p wx => ∃ j : Nat, p = .int .i64 j ∧ j ≤ q ∧ Hid (Pt w wx g n d a b i1 j x e1) ∧ Hid (j < i1 ∨ e1 j < x))
        case first =>
          go_wp2_with (fail)
          go_loopw [11] (fun p wr => ∃ j : Nat, p = .int .i64 j ∧ j ≤ q ∧ Hid (Pt w wr g n d a b i1 j x e1)) (fun p _ => (intOf p).toNat)
          case atStart => exact ⟨q, by go_num, Nat.le_refl _, P0⟩
          case round =>
            obtain ⟨j, rfl, hj0, hr⟩ := hrel
            have q1 := hr.out.ai
            have q2 := hr.out.jb
            have q3 := hr.out.ij
            by_cases hij : i1 ≤ j
            · obtain ⟨m, rfl⟩ : ∃ m, j = m + 1 := ⟨j - 1, by omega⟩
              have cj := hr.out.rw.cell (j := m + 1) (by omega)
              have cx := hr.out.rw.cell (j := a) (by omega)
              rw [hr.out.piv] at cx
              obtain ⟨y, hy⟩ : ∃ y, y = e1 (m + 1) := ⟨_, rfl⟩
              rw [← hy] at cj
              have HY := Lib.hid hy
              have dg : decide ((i1 : Int) ≤ (m : Int) + 1) = true := by simp; omega
              have z0 : (m : Int) + 1 < (n : Int) := by omega
              have z1 : (a : Int) < (n : Int) := by omega
              have z2 : (0 : Int) ≤ (m : Int) + 1 := by omega
              have wm := wrapN m (by omega)
              clear hy
              by_cases hl : y < x
              · have d1 : decide (y < x) = true := by simpa using hl
                have out : Hid (∀ nq, Pt w (wr.drewN nq) g n d a b i1 (m + 1) x e1) := fun nq => hr.out.drewN nq
                have ex : Hid (m + 1 < i1 ∨ e1 (m + 1) < x) := .inr (by rw [← HY.out]; exact hl)
                go_wp2_with (fail)
                go_big_quiet (first | (go_at_call 94; refine Calls.quiet_of_same (less_any _ _ _)))
                go_wp2_with (fail)
                go_meet
                exact ⟨m + 1, by go_num, hj0, out.out _, ex⟩
              · have d1 : decide (y < x) = false := by simpa using hl
                have nxt : Hid (∀ nq, Pt w (wr.drewN nq) g n d a b i1 m x e1) := fun nq => (hr.out.drewN nq).down (by omega) (by rw [← HY.out]; omega)
                go_wp2_with (fail)
                go_big_quiet (first | (go_at_call 94; refine Calls.quiet_of_same (less_any _ _ _)))
                go_wp2_with (fail)
                go_roundw
                case rel => first | exact ⟨m, by go_num, by omega, nxt.out _⟩ | exact ⟨_, _, _, _, _, _, _, _, _, _, _, _, _, _, _, _, _, _, ⟨m, rfl, by omega, nxt.out _⟩, rfl⟩
                case measure => first | (simp [intOf]; done) | (simp [intOf]; omega)
            · have out : Hid (∀ nq, Pt w (wr.drewN nq) g n d a b i1 j x e1) := fun nq => hr.out.drewN nq
              have ex : Hid (j < i1 ∨ e1 j < x) := .inl (by omega)
              clear hr q1 q2 q3
              go_wp2_with (fail)
              go_big_quiet (first | (go_at_call 94; refine Calls.quiet_of_same (less_any _ _ _)))
              go_wp2_with (fail)
              go_meet
              exact ⟨j, rfl, hj0, out.out _, ex⟩
        case rest =>
          obtain ⟨j1, rfl, hj1, P1, X2⟩ := hcut
          clear P0
          have s1 := P1.out.ij
          by_cases hgt : j1 < i1
          · have dgt : decide ((j1 : Int) < (i1 : Int)) = true := by simp; omega
            have r1 := P1.out.ai
            have r2 := P1.out.jb
            have cj := P1.out.rw.cell (j := j1) (by omega)
            have cx := P1.out.rw.cell (j := a) (by omega)
            have ff := P1.out.rw.free
            have sv := (P1.out.rw.set j1 (e1 a)).cell (j := a) (by omega)
            obtain ⟨y, hy⟩ : ∃ y, y = e1 j1 := ⟨_, rfl⟩
            obtain ⟨u, hu⟩ : ∃ u, u = e1 a := ⟨_, rfl⟩
            rw [← hy] at cj
            rw [← hu] at cx sv
            obtain ⟨vv, hvv⟩ : ∃ vv, (wc.setCell ⟨g, j1, none⟩ (.int .u16 u)).cell? ⟨g, a, none⟩ = some vv := ⟨_, sv⟩
            have z0 : (j1 : Int) < (n : Int) := by omega
            have z1 : (a : Int) < (n : Int) := by omega
            have fin : Hid (∀ W', W' = ((wc.setCell ⟨g, j1, none⟩ (.int .u16 u)).setCell ⟨g, a, none⟩ (.int .u16 y)).drew → ∃ e, PtEnd w W' g n d a b j1 e) := by
              rintro W' rfl
              rw [hy, hu]
              exact ⟨_, P1.out.done (by omega) ((P1.out.rw.swap j1 a).quiet ⟨1, rfl⟩)⟩
            clear hy hu sv
            go_wp2_with (fail)
            go_region
            all_goals
              go_wp2_with (fail)
              go_ret2
              exact ⟨j1, true, rfl, fin.out _ rfl⟩
          · have dgt : decide ((j1 : Int) < (i1 : Int)) = false := by simp; omega
            have r1 := P1.out.ai
            have r2 := P1.out.jb
            have hlt : i1 < j1 := by
              rcases Nat.lt_or_ge i1 j1 with h | h
              · exact h
              · have heq : i1 = j1 := by omega
                have t1 := X1.out
                have t2 := X2.out
                rw [heq] at t1
                omega
            have hxi : x ≤ e1 i1 := by have := X1.out; omega
            have hxj : e1 j1 < x := by have := X2.out; omega
            obtain ⟨m, rfl⟩ : ∃ m, j1 = m + 1 := ⟨j1 - 1, by omega⟩
            have ci := P1.out.rw.cell (j := i1) (by omega)
            have cj := P1.out.rw.cell (j := m + 1) (by omega)
            have ff := P1.out.rw.free
            obtain ⟨y, hy⟩ : ∃ y, y = e1 i1 := ⟨_, rfl⟩
            obtain ⟨u, hu⟩ : ∃ u, u = e1 (m + 1) := ⟨_, rfl⟩
            rw [← hy] at ci
            rw [← hu] at cj
            have sv := (P1.out.rw.set i1 u).cell (j := m + 1) (by omega)
            obtain ⟨vv, hvv⟩ : ∃ vv, (wc.setCell ⟨g, i1, none⟩ (.int .u16 u)).cell? ⟨g, m + 1, none⟩ = some vv := ⟨_, sv⟩
            have z0 : (i1 : Int) < (n : Int) := by omega
            have z1 : (m : Int) + 1 < (n : Int) := by omega
            have z2 : (0 : Int) ≤ (m : Int) + 1 := by omega
            have wm := wrapN m (by omega)
            have nxt : Hid (∀ W', W' = ((wc.setCell ⟨g, i1, none⟩ (.int .u16 u)).setCell ⟨g, m + 1, none⟩ (.int .u16 y)).drew → Pt w W' g n d a b (i1 + 1) m x (sw e1 i1 (m + 1))) := by
              rintro W' rfl
              rw [hy, hu]
              exact P1.out.swap hlt hxi hxj ((P1.out.rw.swap i1 (m + 1)).quiet ⟨1, rfl⟩)
            clear hy hu sv hxi hxj
            go_wp2_with (fail)
            go_region
            all_goals
              go_wp2_with (fail)
              go_loopw [10, 11] (fun p q wr => ∃ (i j : Nat) (e : Nat → Int), p = .int .i64 i ∧ q = .int .i64 j ∧ Hid (Pt w wr g n d a b i j x e)) (fun p q _ => (intOf q - intOf p + 1).toNat)
              case atStart => exact ⟨i1 + 1, m, _, by go_num, by go_num, nxt.out _ rfl⟩
              case round =>
                obtain ⟨i3, j3, e3, rfl, rfl, P3⟩ := hrel
                go_upto_block 6 with (fail)
                go_cut [10] (fun p wx => ∃ i : Nat, p = .int .i64 i ∧ i3 ≤ i ∧ Hid (Pt w wx g n d a b i j3 x e3) ∧ Hid (j3 < i ∨ x ≤ e3 i))
                case first =>
                  go_wp2_with (fail)
                  go_loopw [10] (fun p wr => ∃ i : Nat, p = .int .i64 i ∧ i3 ≤ i ∧ Hid (Pt w wr g n d a b i j3 x e3)) (fun p _ => b - (intOf p).toNat)
                  case atStart => exact ⟨i3, by go_num, Nat.le_refl _, P3⟩
                  case round =>
                    obtain ⟨i, rfl, hi0, hr⟩ := hrel
                    have q1 := hr.out.ai
                    have q2 := hr.out.jb
                    have q3 := hr.out.ij
                    by_cases hij : i ≤ j3
                    · have ci := hr.out.rw.cell (j := i) (by omega)
                      have cx := hr.out.rw.cell (j := a) (by omega)
                      rw [hr.out.piv] at cx
                      obtain ⟨y, hy⟩ : ∃ y, y = e3 i := ⟨_, rfl⟩
                      rw [← hy] at ci
                      have HY := Lib.hid hy
                      have dg : decide ((i : Int) ≤ (j3 : Int)) = true := by simp; omega
                      have z0 : (i : Int) < (n : Int) := by omega
                      have z1 : (a : Int) < (n : Int) := by omega
                      clear hy
                      by_cases hl : y < x
                      · have d1 : decide (y < x) = true := by simpa using hl
                        have nxt : Hid (∀ nq, Pt w (wr.drewN nq) g n d a b (i + 1) j3 x e3) := fun nq => (hr.out.drewN nq).up hij (by rw [← HY.out]; exact hl)
                        go_wp2_with (fail)
                        go_big_quiet (first | (go_at_call 94; refine Calls.quiet_of_same (less_any _ _ _)))
                        go_wp2_with (fail)
                        go_roundw
                        case rel => exact ⟨i + 1, by go_num, by omega, nxt.out _⟩
                        case measure => first | (simp [intOf]; done) | (simp [intOf]; omega)
                      · have d1 : decide (y < x) = false := by simpa using hl
                        have out : Hid (∀ nq, Pt w (wr.drewN nq) g n d a b i j3 x e3) := fun nq => hr.out.drewN nq
                        have ex : Hid (j3 < i ∨ x ≤ e3 i) := .inr (by rw [← HY.out]; omega)
                        go_wp2_with (fail)
                        go_big_quiet (first | (go_at_call 94; refine Calls.quiet_of_same (less_any _ _ _)))
                        go_wp2_with (fail)
                        go_meet
                        exact ⟨i, rfl, hi0, out.out _, ex⟩
                    · have out : Hid (∀ nq, Pt w (wr.drewN nq) g n d a b i j3 x e3) := fun nq => hr.out.drewN nq
                      have ex : Hid (j3 < i ∨ x ≤ e3 i) := .inl (by omega)
                      clear hr q1 q2 q3
                      go_wp2_with (fail)
                      go_big_quiet (first | (go_at_call 94; refine Calls.quiet_of_same (less_any _ _ _)))
                      go_wp2_with (fail)
                      go_meet
                      exact ⟨i, rfl, hi0, out.out _, ex⟩
                case rest =>
                  obtain ⟨i4, rfl, hi4, P3, X3⟩ := hcut
                  go_upto_block 8 with (fail)
                  go_cut [11] (fun p wx => ∃ j : Nat, p = .int .i64 j ∧ j ≤ j3 ∧ Hid (Pt w wx g n d a b i4 j x e3) ∧ Hid (j < i4 ∨ e3 j < x))
                  case first =>
                    go_wp2_with (fail)
                    go_loopw [11] (fun p wr => ∃ j : Nat, p = .int .i64 j ∧ j ≤ j3 ∧ Hid (Pt w wr g n d a b i4 j x e3)) (fun p _ => (intOf p).toNat)
                    case atStart => exact ⟨j3, by go_num, Nat.le_refl _, P3⟩
                    case round =>
                      obtain ⟨j, rfl, hj0, hr⟩ := hrel
                      have q1 := hr.out.ai
                      have q2 := hr.out.jb
                      have q3 := hr.out.ij
                      by_cases hij : i4 ≤ j
                      · obtain ⟨m, rfl⟩ : ∃ m, j = m + 1 := ⟨j - 1, by omega⟩
                        have cj := hr.out.rw.cell (j := m + 1) (by omega)
                        have cx := hr.out.rw.cell (j := a) (by omega)
                        rw [hr.out.piv] at cx
                        obtain ⟨y, hy⟩ : ∃ y, y = e3 (m + 1) := ⟨_, rfl⟩
                        rw [← hy] at cj
                        have HY := Lib.hid hy
                        have dg : decide ((i4 : Int) ≤ (m : Int) + 1) = true := by simp; omega
                        have z0 : (m : Int) + 1 < (n : Int) := by omega
                        have z1 : (a : Int) < (n : Int) := by omega
                        have z2 : (0 : Int) ≤ (m : Int) + 1 := by omega
                        have wm := wrapN m (by omega)
                        clear hy
                        by_cases hl : y < x
                        · have d1 : decide (y < x) = true := by simpa using hl
                          have out : Hid (∀ nq, Pt w (wr.drewN nq) g n d a b i4 (m + 1) x e3) := fun nq => hr.out.drewN nq
                          have ex : Hid (m + 1 < i4 ∨ e3 (m + 1) < x) := .inr (by rw [← HY.out]; exact hl)
                          go_wp2_with (fail)
                          go_big_quiet (first | (go_at_call 94; refine Calls.quiet_of_same (less_any _ _ _)))
                          go_wp2_with (fail)
                          go_meet
                          exact ⟨m + 1, by go_num, hj0, out.out _, ex⟩
                        · have d1 : decide (y < x) = false := by simpa using hl
                          have nxt : Hid (∀ nq, Pt w (wr.drewN nq) g n d a b i4 m x e3) := fun nq => (hr.out.drewN nq).down (by omega) (by rw [← HY.out]; omega)
                          go_wp2_with (fail)
                          go_big_quiet (first | (go_at_call 94; refine Calls.quiet_of_same (less_any _ _ _)))
                          go_wp2_with (fail)
                          go_roundw
                          case rel => first | exact ⟨m, by go_num, by omega, nxt.out _⟩ | exact ⟨_, _, _, _, _, _, _, _, _, _, _, _, _, _, _, _, _, _, ⟨m, rfl, by omega, nxt.out _⟩, rfl⟩
                          case measure => first | (simp [intOf]; done) | (simp [intOf]; omega)
                      · have out : Hid (∀ nq, Pt w (wr.drewN nq) g n d a b i4 j x e3) := fun nq => hr.out.drewN nq
                        have ex : Hid (j < i4 ∨ e3 j < x) := .inl (by omega)
                        clear hr q1 q2 q3
                        go_wp2_with (fail)
                        go_big_quiet (first | (go_at_call 94; refine Calls.quiet_of_same (less_any _ _ _)))
                        go_wp2_with (fail)
                        go_meet
                        exact ⟨j, rfl, hj0, out.out _, ex⟩
                  case rest =>
                    obtain ⟨j4, rfl, hj4, P4, X4⟩ := hcut
                    clear P3
                    have s3 := P4.out.ij
                    by_cases hgt : j4 < i4
                    · have dgt : decide ((j4 : Int) < (i4 : Int)) = true := by simp; omega
                      have r1 := P4.out.ai
                      have r2 := P4.out.jb
                      have cj := P4.out.rw.cell (j := j4) (by omega)
                      have cx := P4.out.rw.cell (j := a) (by omega)
                      have ff := P4.out.rw.free
                      have sv := (P4.out.rw.set j4 (e3 a)).cell (j := a) (by omega)
                      obtain ⟨y, hy⟩ : ∃ y, y = e3 j4 := ⟨_, rfl⟩
                      obtain ⟨u, hu⟩ : ∃ u, u = e3 a := ⟨_, rfl⟩
                      rw [← hy] at cj
                      rw [← hu] at cx sv
                      obtain ⟨vv, hvv⟩ : ∃ vv, (wc.setCell ⟨g, j4, none⟩ (.int .u16 u)).cell? ⟨g, a, none⟩ = some vv := ⟨_, sv⟩
                      have z0 : (j4 : Int) < (n : Int) := by omega
                      have z1 : (a : Int) < (n : Int) := by omega
                      have fin : Hid (∀ W', W' = ((wc.setCell ⟨g, j4, none⟩ (.int .u16 u)).setCell ⟨g, a, none⟩ (.int .u16 y)).drew → ∃ e, PtEnd w W' g n d a b j4 e) := by
                        rintro W' rfl
                        rw [hy, hu]
                        exact ⟨_, P4.out.done (by omega) ((P4.out.rw.swap j4 a).quiet ⟨1, rfl⟩)⟩
                      clear hy hu sv
                      go_wp2_with (fail)
                      go_region
                      all_goals
                        go_wp2_with (fail)
                        go_ret2
                        exact ⟨j4, false, rfl, fin.out _ rfl⟩
                    · have dgt : decide ((j4 : Int) < (i4 : Int)) = false := by simp; omega
                      have r1 := P4.out.ai
                      have r2 := P4.out.jb
                      have hlt : i4 < j4 := by
                        rcases Nat.lt_or_ge i4 j4 with h | h
                        · exact h
                        · have heq : i4 = j4 := by omega
                          have t1 := X3.out
                          have t2 := X4.out
                          rw [heq] at t1
                          omega
                      have hxi : x ≤ e3 i4 := by have := X3.out; omega
                      have hxj : e3 j4 < x := by have := X4.out; omega
                      obtain ⟨m, rfl⟩ : ∃ m, j4 = m + 1 := ⟨j4 - 1, by omega⟩
                      have ci := P4.out.rw.cell (j := i4) (by omega)
                      have cj := P4.out.rw.cell (j := m + 1) (by omega)
                      have ff := P4.out.rw.free
                      obtain ⟨y, hy⟩ : ∃ y, y = e3 i4 := ⟨_, rfl⟩
                      obtain ⟨u, hu⟩ : ∃ u, u = e3 (m + 1) := ⟨_, rfl⟩
                      rw [← hy] at ci
                      rw [← hu] at cj
                      have sv := (P4.out.rw.set i4 u).cell (j := m + 1) (by omega)
                      obtain ⟨vv, hvv⟩ : ∃ vv, (wc.setCell ⟨g, i4, none⟩ (.int .u16 u)).cell? ⟨g, m + 1, none⟩ = some vv := ⟨_, sv⟩
                      have z0 : (i4 : Int) < (n : Int) := by omega
                      have z1 : (m : Int) + 1 < (n : Int) := by omega
                      have z2 : (0 : Int) ≤ (m : Int) + 1 := by omega
                      have wm := wrapN m (by omega)
                      have nxt : Hid (∀ W', W' = ((wc.setCell ⟨g, i4, none⟩ (.int .u16 u)).setCell ⟨g, m + 1, none⟩ (.int .u16 y)).drew → Pt w W' g n d a b (i4 + 1) m x (sw e3 i4 (m + 1))) := by
                        rintro W' rfl
                        rw [hy, hu]
                        exact P4.out.swap hlt hxi hxj ((P4.out.rw.swap i4 (m + 1)).quiet ⟨1, rfl⟩)
                      clear hy hu sv hxi hxj
                      go_wp2_with (fail)
                      go_region
                      all_goals
                        go_wp2_with (fail)
                        go_roundw
                        case rel => exact ⟨i4 + 1, m, _, by go_num, by go_num, nxt.out _ rfl⟩
                        case measure => first | (simp [intOf]; done) | (simp [intOf]; omega)
end Go.Proofs.YtabeljpnmmfpgaaDoor
