/-
  Sorting a row of bytes, 7: pdqsort of at most 16 elements that are all different.
-/
import Derived.Test.YtabeljpnmmfpgaaSo6
namespace Go.Proofs.Ytabeljpnmmfpgaa
open Go.RowKit Go.MapKept
set_option linter.unusedVariables false
set_option linter.unusedSimpArgs false

set_option maxRecDepth 100000 in
set_option maxHeartbeats 4000000 in
theorem pdq_small (w : World) (g n c a b : Nat) (L : Nat) (d : Nat → Int) (h : Rw w w g n d) (hab : a ≤ b) (h12 : b ≤ a + 12) (hb : b ≤ n) (hn : n ≤ 1000000000) :
    Calls Try.prog 60 #[.slice (some ⟨g, 0, none⟩) n c, .int .i64 a, .int .i64 b, .int .i64 L] w fun e w' => e = .returned (.tuple #[]) ∧ Hid (∃ d', Rw w w' g n d' ∧ Pm a b d d' ∧ Asc a b d') := by
  have ins := Lib.hid (insertion_any w g n c a b d h hab hb hn)
  have dl : decide ((b : Int) - (a : Int) ≤ 12) = true := by simp; omega
  clear h
  go_enter Try.func60, Try.ntmps60
  go_wp2_with (fail)
  go_loopw [1, 2, 3, 8, 9] (fun p1 p2 p3 p8 p9 wr => p1 = .int .i64 (a : Int) ∧ p2 = .int .i64 (b : Int) ∧ p3 = .int .i64 (L : Int) ∧ p8 = .bool true ∧ p9 = .bool true ∧ wr = w) (fun _ _ _ _ _ _ => 0)
  case atStart => exact ⟨rfl, rfl, rfl, rfl, rfl, rfl⟩
  case round =>
    obtain ⟨rfl, rfl, rfl, rfl, rfl, rfl⟩ := hrel
    go_wp2_with (fail)
    refine ins.out.mono ?_
    rintro e w1 ⟨rfl, hd⟩
    have HD := Lib.hid hd
    clear hd
    go_wp2_with (fail)
    first | go_end0 | refine bodyPost_ret (results_none rfl _ _ _) rfl ?_
    exact ⟨rfl, HD⟩

/-- What a round of pdqsort has: [a, b) is still to be sorted, all else stands in its place. -/
structure Qs (w W : World) (g n B : Nat) (d : Nat → Int) (a b L : Nat) (e : Nat → Int) : Prop where
  rw : Rw w W g n e
  pm : Pm 0 B d e
  inj : Inj n e
  ab : a ≤ b
  bB : b ≤ B
  len : b ≤ a + 16
  lim : b ≤ a + 11 + L
  out : ∀ x y, x ≤ y → y < B → (x < a ∨ b ≤ y) → e x ≤ e y
theorem Qs.start {w : World} {g n B L : Nat} {d : Nat → Int} (h : Rw w w g n d) (hi : Inj n d) (hB : B ≤ 16) (hL : B ≤ 11 + L) : Qs w w g n B d 0 B L d :=
  ⟨h, Pm.refl _ _ _, hi, by omega, Nat.le_refl _, by omega, by omega, fun x y h1 h2 h3 => by omega⟩
theorem Qs.shuffle {w W W' : World} {g n B : Nat} {d : Nat → Int} {a b L L' : Nat} {e e' : Nat → Int} (h : Qs w W g n B d a b L e) (hr : Rw w W' g n e') (hp : Pm a b e e') (hn : B ≤ n) (hl : b ≤ a + 12 + L') : Pm 0 B d e' ∧ Inj n e' ∧ (∀ x y, x ≤ y → y < B → (x < a ∨ b ≤ y) → e' x ≤ e' y) := by
  have h1 := h.ab; have h2 := h.bB
  refine ⟨h.pm.trans (hp.mono (Nat.zero_le _) h2), hp.inj (by omega) h.inj, fun x y hxy hy ho => ?_⟩
  by_cases hx : a ≤ x ∧ x < b
  · obtain ⟨m, m1, m2, m3⟩ := hp.mem x hx.1 hx.2
    rw [m3, hp.out y (by omega)]
    exact h.out m y (by omega) hy (.inr (by omega))
  · rw [hp.out x hx]
    by_cases hy' : a ≤ y ∧ y < b
    · obtain ⟨m, m1, m2, m3⟩ := hp.mem y hy'.1 hy'.2
      rw [m3]
      exact h.out x m (by omega) (by omega) (.inl (by omega))
    · rw [hp.out y hy']; exact h.out x y hxy hy ho
theorem Qs.done {w W : World} {g n B : Nat} {d : Nat → Int} {a b L : Nat} {e e' : Nat → Int} (h : Qs w W g n B d a b L e) {W' : World} (hr : Rw w W' g n e') (hp : Pm a b e e') (hs : Asc a b e') (hn : B ≤ n) : Rw w W' g n e' ∧ Pm 0 B d e' ∧ Asc 0 B e' := by
  obtain ⟨q1, q2, q3⟩ := h.shuffle (L' := L + 4) hr hp hn (by have := h.lim; omega)
  refine ⟨hr, q1, fun x y _ hxy hy => ?_⟩
  by_cases ho : x < a ∨ b ≤ y
  · exact q3 x y hxy hy ho
  · exact hs x y (by omega) hxy (by omega)
/-- The left part is sorted, the right one is left. -/
theorem Qs.right {w W W2 W3 : World} {g n B : Nat} {d : Nat → Int} {a b L L' m : Nat} {e e2 e3 : Nat → Int} (h : Qs w W g n B d a b L e) (hp : Pm a b e e2) (hn : B ≤ n) (am : a ≤ m) (mb : m < b) (hlo : ∀ k, a ≤ k → k < m → e2 k < e2 m) (hhi : ∀ k, m < k → k < b → e2 m ≤ e2 k)
    (hr : Rw w W3 g n e3) (hp3 : Pm a m e2 e3) (hs : Asc a m e3) (hl : b ≤ a + 12 + L') : Qs w W3 g n B d (m + 1) b L' e3 := by
  have h1 := h.len; have h2 := h.bB
  have hp' : Pm a b e e3 := hp.trans (hp3.mono (Nat.le_refl _) (by omega))
  obtain ⟨q1, q2, q3⟩ := h.shuffle (L' := L') hr hp' hn hl
  have hm : e3 m = e2 m := hp3.out m (by omega)
  have hlo3 : ∀ k, a ≤ k → k < m → e3 k < e3 m := by rw [hm]; exact hp3.all (Q := fun v => v < e2 m) hlo
  have hhi3 : ∀ k, m < k → k < b → e3 m ≤ e3 k := fun k k1 k2 => by rw [hm, hp3.out k (by omega)]; exact hhi k k1 k2
  refine ⟨hr, q1, q2, by omega, h2, by omega, by omega, fun x y hxy hy ho => ?_⟩
  by_cases ho' : x < a ∨ b ≤ y
  · exact q3 x y hxy hy ho'
  · have x1 : a ≤ x := by omega
    have y1 : y < b := by omega
    have x2 : x ≤ m := by omega
    by_cases y2 : y < m
    · exact hs x y x1 hxy y2
    · have e1 : e3 x ≤ e3 m := by
        by_cases x3 : x = m
        · rw [x3]; exact Int.le_refl _
        · exact Int.le_of_lt (hlo3 x x1 (by omega))
      by_cases y3 : y = m
      · rw [y3]; exact e1
      · exact Int.le_trans e1 (hhi3 y (by omega) y1)
/-- The right part is sorted, the left one is left. -/
theorem Qs.left {w W W2 W3 : World} {g n B : Nat} {d : Nat → Int} {a b L L' m : Nat} {e e2 e3 : Nat → Int} (h : Qs w W g n B d a b L e) (hp : Pm a b e e2) (hn : B ≤ n) (am : a ≤ m) (mb : m < b) (hlo : ∀ k, a ≤ k → k < m → e2 k < e2 m) (hhi : ∀ k, m < k → k < b → e2 m ≤ e2 k)
    (hr : Rw w W3 g n e3) (hp3 : Pm (m + 1) b e2 e3) (hs : Asc (m + 1) b e3) (hl : b ≤ a + 12 + L') : Qs w W3 g n B d a m L' e3 := by
  have h1 := h.len; have h2 := h.bB
  have hp' : Pm a b e e3 := hp.trans (hp3.mono (by omega) (Nat.le_refl _))
  obtain ⟨q1, q2, q3⟩ := h.shuffle (L' := L') hr hp' hn hl
  have hm : e3 m = e2 m := hp3.out m (by omega)
  have hlo3 : ∀ k, a ≤ k → k < m → e3 k < e3 m := fun k k1 k2 => by rw [hm, hp3.out k (by omega)]; exact hlo k k1 k2
  have hhi3 : ∀ k, m + 1 ≤ k → k < b → e3 m ≤ e3 k := by rw [hm]; exact hp3.all (Q := fun v => e2 m ≤ v) (fun k k1 k2 => hhi k (by omega) k2)
  refine ⟨hr, q1, q2, am, by omega, by omega, by omega, fun x y hxy hy ho => ?_⟩
  by_cases ho' : x < a ∨ b ≤ y
  · exact q3 x y hxy hy ho'
  · have x1 : a ≤ x := by omega
    have y1 : y < b := by omega
    have y2 : m ≤ y := by omega
    by_cases x2 : m + 1 ≤ x
    · exact hs x y x2 hxy y1
    · have e1 : e3 x ≤ e3 m := by
        by_cases x3 : x = m
        · rw [x3]; exact Int.le_refl _
        · exact Int.le_of_lt (hlo3 x x1 (by omega))
      by_cases y3 : y = m
      · rw [y3]; exact e1
      · exact Int.le_trans e1 (hhi3 y (by omega) y1)
end Go.Proofs.Ytabeljpnmmfpgaa
