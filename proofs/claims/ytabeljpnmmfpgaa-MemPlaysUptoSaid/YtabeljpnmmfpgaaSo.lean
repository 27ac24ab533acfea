/-
  Sorting a row of bytes, 1: what a row is, what a swap does; cmp.Less; the insertion sort.
  Sorting a row of bytes, 2: the choice of a pivot.
  Sorting a row of bytes, 3: the look whether it is sorted; the partition.
  Sorting a row of bytes, 4: the partition.
  Sorting a row of bytes, 5: math/bits.Len of at most 16; the shuffle.
  Sorting a row of bytes, 6: the shuffle of three elements.
  Sorting a row of bytes, 7: pdqsort of at most 16 elements that are all different.
  Sorting a row of bytes, 8: pdqsort of at most 16 different elements, walked.
-/
import Derived.Test.YtabeljpnmmfpgaaMemDef
import Derived.Lib.Hide
import Derived.Deep.RegionHeld3
import Derived.Sort.AtCall
import Derived.Deep.QuietTactic
import Derived.Deep.DeepCutAuto
import Derived.BigRegion
import Derived.BigQuiet
import Derived.Deep.CutBlock
import Derived.Lib.BitFns
namespace Go.Proofs.Ytabeljpnmmfpgaa
open Go.RowKit Go.MapKept
set_option linter.unusedVariables false
set_option linter.unusedSimpArgs false

/-! ### rows as functions -/
def sw (d : Nat → Int) (i j : Nat) : Nat → Int := fun k => if k = i then d j else if k = j then d i else d k
/-- d' comes of d by swaps within [a, b). -/
def Pm (a b : Nat) (d d' : Nat → Int) : Prop := ∀ R : (Nat → Int) → Prop, R d → (∀ e i j, R e → a ≤ i → i < b → a ≤ j → j < b → R (sw e i j)) → R d'
theorem Pm.refl (a b : Nat) (d : Nat → Int) : Pm a b d d := fun R h _ => h
theorem Pm.swap {a b : Nat} {d d' : Nat → Int} (h : Pm a b d d') {i j : Nat} (hi : a ≤ i) (hi' : i < b) (hj : a ≤ j) (hj' : j < b) : Pm a b d (sw d' i j) := fun R h0 hs => hs _ _ _ (h R h0 hs) hi hi' hj hj'
theorem Pm.trans {a b : Nat} {d d' d'' : Nat → Int} (h : Pm a b d d') (k : Pm a b d' d'') : Pm a b d d'' := fun R h0 hs => k R (h R h0 hs) hs
theorem Pm.mono {a b a' b' : Nat} {d d' : Nat → Int} (h : Pm a b d d') (ha : a' ≤ a) (hb : b ≤ b') : Pm a' b' d d' := fun R h0 hs => h R h0 (fun e i j he h1 h2 h3 h4 => hs e i j he (by omega) (by omega) (by omega) (by omega))
theorem Pm.out {a b : Nat} {d d' : Nat → Int} (h : Pm a b d d') : ∀ k, ¬ (a ≤ k ∧ k < b) → d' k = d k :=
  h (fun e => ∀ k, ¬ (a ≤ k ∧ k < b) → e k = d k) (fun _ _ => rfl) (fun e i j he h1 h2 h3 h4 k hk => by
    unfold sw
    rw [if_neg (by rintro rfl; exact hk ⟨h1, h2⟩), if_neg (by rintro rfl; exact hk ⟨h3, h4⟩)]
    exact he k hk)
theorem Pm.mem {a b : Nat} {d d' : Nat → Int} (h : Pm a b d d') : ∀ k, a ≤ k → k < b → ∃ m, a ≤ m ∧ m < b ∧ d' k = d m :=
  h (fun e => ∀ k, a ≤ k → k < b → ∃ m, a ≤ m ∧ m < b ∧ e k = d m) (fun k h1 h2 => ⟨k, h1, h2, rfl⟩) (fun e i j he h1 h2 h3 h4 k hk hk' => by
    unfold sw
    by_cases e1 : k = i
    · rw [if_pos e1]; exact he j h3 h4
    · rw [if_neg e1]
      by_cases e2 : k = j
      · rw [if_pos e2]; exact he i h1 h2
      · rw [if_neg e2]; exact he k hk hk')
theorem Pm.mem' {a b : Nat} {d d' : Nat → Int} (h : Pm a b d d') : ∀ k, a ≤ k → k < b → ∃ m, a ≤ m ∧ m < b ∧ d k = d' m :=
  h (fun e => ∀ k, a ≤ k → k < b → ∃ m, a ≤ m ∧ m < b ∧ d k = e m) (fun k h1 h2 => ⟨k, h1, h2, rfl⟩) (fun e i j he h1 h2 h3 h4 k hk hk' => by
    obtain ⟨m, m1, m2, m3⟩ := he k hk hk'
    by_cases e1 : m = i
    · refine ⟨j, h3, h4, ?_⟩
      unfold sw
      by_cases e2 : j = i
      · rw [if_pos e2, m3, e1, e2]
      · rw [if_neg e2, if_pos rfl, m3, e1]
    · by_cases e2 : m = j
      · refine ⟨i, h1, h2, ?_⟩
        unfold sw
        rw [if_pos rfl, m3, e2]
      · refine ⟨m, m1, m2, ?_⟩
        unfold sw
        rw [if_neg e1, if_neg e2, m3])
theorem Pm.all {a b : Nat} {d d' : Nat → Int} (h : Pm a b d d') {Q : Int → Prop} (hq : ∀ k, a ≤ k → k < b → Q (d k)) : ∀ k, a ≤ k → k < b → Q (d' k) := fun k h1 h2 => by
  obtain ⟨m, m1, m2, m3⟩ := h.mem k h1 h2
  rw [m3]; exact hq m m1 m2
def Inj (n : Nat) (d : Nat → Int) : Prop := ∀ i j, i < n → j < n → d i = d j → i = j
theorem Inj.sw {n : Nat} {d : Nat → Int} (h : Inj n d) {i j : Nat} (hi : i < n) (hj : j < n) : Inj n (sw d i j) := by
  intro x y hx hy e
  unfold Go.Proofs.Ytabeljpnmmfpgaa.sw at e
  by_cases x1 : x = i
  · by_cases y1 : y = i
    · rw [x1, y1]
    · rw [if_pos x1, if_neg y1] at e
      by_cases y2 : y = j
      · rw [if_pos y2] at e
        have := h j i hj hi e
        omega
      · rw [if_neg y2] at e
        have := h j y hj hy e
        omega
  · rw [if_neg x1] at e
    by_cases x2 : x = j
    · rw [if_pos x2] at e
      by_cases y1 : y = i
      · rw [if_pos y1] at e
        have := h i j hi hj e
        omega
      · rw [if_neg y1] at e
        by_cases y2 : y = j
        · rw [x2, y2]
        · rw [if_neg y2] at e
          have := h i y hi hy e
          omega
    · rw [if_neg x2] at e
      by_cases y1 : y = i
      · rw [if_pos y1] at e
        have := h x j hx hj e
        omega
      · rw [if_neg y1] at e
        by_cases y2 : y = j
        · rw [if_pos y2] at e
          have := h x i hx hi e
          omega
        · rw [if_neg y2] at e
          exact h x y hx hy e
theorem Pm.inj {a b n : Nat} {d d' : Nat → Int} (h : Pm a b d d') (hb : b ≤ n) (hi : Inj n d) : Inj n d' := h (Inj n) hi (fun e i j he h1 h2 h3 h4 => he.sw (by omega) (by omega))

/-- Ascending on [a, b). -/
def Asc (a b : Nat) (d : Nat → Int) : Prop := ∀ i j, a ≤ i → i ≤ j → j < b → d i ≤ d j

theorem asc_one (a : Nat) (d : Nat → Int) : Asc a (a + 1) d := fun i j h1 h2 h3 => by
  have : i = j := by omega
  rw [this]; exact Int.le_refl _

/-! ### rows in the heap -/
/-- W is w but for the row in block g, which holds d. -/
structure Rw (w W : World) (g n : Nat) (d : Nat → Int) : Prop where
  upd : Upd w W (fun i => i = g)
  row : ∃ cs, W.heap[g]? = some (.cells cs 5 (0, 0)) ∧ ∀ j, j < n → cs[j]? = some (.int .u8 (d j))
theorem Rw.cell {w W : World} {g n : Nat} {d : Nat → Int} (h : Rw w W g n d) {j : Nat} (hj : j < n) : W.cell? ⟨g, j, none⟩ = some (.int .u8 (d j)) := by
  obtain ⟨cs, h1, h2⟩ := h.row
  rw [cell_of h1]; exact h2 j hj
theorem Rw.free {w W : World} {g n : Nat} {d : Nat → Int} (h : Rw w W g n d) (j : Nat) : W.frozen? ⟨g, j, none⟩ = false := by
  obtain ⟨cs, h1, h2⟩ := h.row
  exact free_of h1 j
theorem Rw.lt {w W : World} {g n : Nat} {d : Nat → Int} (h : Rw w W g n d) : g < W.heap.size := by
  obtain ⟨cs, h1, h2⟩ := h.row
  exact heap_lt h1
theorem Rw.next {w W W' : World} {g n : Nat} {d : Nat → Int} (h : Rw w W g n d) (hb : Below W.heap.size W W') : Rw w W' g n d := by
  obtain ⟨cs, h1, h2⟩ := h.row
  exact ⟨h.upd.trans (Upd.of_below hb (fun _ => False)) (fun _ _ f => f.elim), cs, (hb.block _ (heap_lt h1)).trans h1, h2⟩
theorem Rw.quiet {w W W' : World} {g n : Nat} {d : Nat → Int} (h : Rw w W g n d) (q : Quiet W W') : Rw w W' g n d := by
  obtain ⟨cs, h1, h2⟩ := h.row
  obtain ⟨m, rfl⟩ := q
  exact ⟨h.upd.drewN m, cs, h1, h2⟩
theorem Rw.trans {w W W' : World} {g n : Nat} {d d' : Nat → Int} (h : Rw w W g n d) (k : Rw W W' g n d') : Rw w W' g n d' :=
  ⟨h.upd.trans k.upd (fun _ _ e => e), k.row⟩
theorem Rw.set {w W : World} {g n : Nat} {d : Nat → Int} (h : Rw w W g n d) (i : Nat) (v : Int) : Rw w (W.setCell ⟨g, i, none⟩ (.int .u8 v)) g n (fun k => if k = i then v else d k) := by
  obtain ⟨cs, h1, h2⟩ := h.row
  refine ⟨h.upd.setCell (fun _ => rfl) _, _, heap_set_cell h1 i _, fun j hj => ?_⟩
  rw [Array.getElem?_setIfInBounds]
  by_cases e : i = j
  · subst e
    have h3 := (Array.getElem?_eq_some_iff.1 (h2 i hj)).1
    simp [h3]
  · rw [if_neg e, if_neg (fun e' => e e'.symm)]; exact h2 j hj
theorem Rw.congr {w W : World} {g n : Nat} {d d' : Nat → Int} (h : Rw w W g n d) (e : ∀ k, k < n → d' k = d k) : Rw w W g n d' := by
  obtain ⟨cs, h1, h2⟩ := h.row
  exact ⟨h.upd, cs, h1, fun j hj => by rw [e j hj]; exact h2 j hj⟩
/-- The two stores of a swap, in either order. -/
theorem Rw.swap {w W : World} {g n : Nat} {d : Nat → Int} (h : Rw w W g n d) (i j : Nat) : Rw w ((W.setCell ⟨g, i, none⟩ (.int .u8 (d j))).setCell ⟨g, j, none⟩ (.int .u8 (d i))) g n (sw d i j) := by
  refine ((h.set i (d j)).set j (d i)).congr (fun k hk => ?_)
  unfold sw
  by_cases e1 : k = i
  · by_cases e2 : k = j
    · rw [if_pos e1, if_pos e2, ← e1, ← e2]
    · rw [if_pos e1, if_neg e2, if_pos e1]
  · by_cases e2 : k = j
    · rw [if_neg e1, if_pos e2, if_pos e2]
    · rw [if_neg e1, if_neg e2, if_neg e2, if_neg e1]

theorem wrapN (m : Nat) (h : m ≤ 4000000000) : IntKind.i64.wrap (m : Int) = m := by simp [IntKind.wrap, IntKind.bits, IntKind.signed]; omega

/-! ### cmp.Less -/
theorem isNaN_any (w : World) (x : Int) : Calls Try.prog 78 #[.int .u8 x] w fun e w' => e = .returned (.bool false) ∧ w' = w := by
  have h : (x != x) = false := by simp
  go_enter Try.func78, Try.ntmps78
  go_wp2
  go_ret
  exact ⟨rfl, rfl⟩
theorem less_any (w : World) (x y : Int) : Calls Try.prog 68 #[.int .u8 x, .int .u8 y] w fun e w' => e = .returned (.bool (decide (x < y))) ∧ w' = w := by
  go_enter Try.func68, Try.ntmps68
  go_wp2_with (go_at_call 78; refine (isNaN_any _ _).mono ?_; rintro e w1 ⟨rfl, rfl⟩)
  go_ret
  exact ⟨rfl, rfl⟩

/-! ### the insertion sort -/
/-- While the element at j goes down: but for it all of [a, i] ascends, and it is not more than those behind it. -/
def Ins (a i j : Nat) (d : Nat → Int) : Prop := (∀ x y, a ≤ x → x ≤ y → y ≤ i → x ≠ j → y ≠ j → d x ≤ d y) ∧ ∀ y, j < y → y ≤ i → d j ≤ d y
theorem Ins.start {a i : Nat} {d : Nat → Int} (h : Asc a i d) : Ins a i i d := ⟨fun x y h1 h2 h3 h4 h5 => h x y h1 h2 (by omega), fun y h1 h2 => by omega⟩
theorem Ins.step {a i m : Nat} {d : Nat → Int} (h : Ins a i (m + 1) d) (hj : a ≤ m) (hi : m + 1 ≤ i) (hl : d (m + 1) < d m) : Ins a i m (sw d (m + 1) m) := by
  obtain ⟨h1, h2⟩ := h
  have e : ∀ k, sw d (m + 1) m k = if k = m + 1 then d m else if k = m then d (m + 1) else d k := fun k => rfl
  constructor
  · intro x y hx hxy hy hxn hyn
    rw [e, e, if_neg hxn, if_neg hyn]
    by_cases x1 : x = m + 1
    · by_cases y1 : y = m + 1
      · rw [if_pos x1, if_pos y1]; exact Int.le_refl _
      · rw [if_pos x1, if_neg y1]; exact h1 m y hj (by omega) hy (by omega) y1
    · rw [if_neg x1]
      by_cases y1 : y = m + 1
      · rw [if_pos y1]; exact h1 x m hx (by omega) (by omega) x1 (by omega)
      · rw [if_neg y1]; exact h1 x y hx hxy hy x1 y1
  · intro y hy hyi
    rw [e m, e y, if_neg (by omega), if_pos rfl]
    by_cases y1 : y = m + 1
    · rw [if_pos y1]; omega
    · rw [if_neg y1, if_neg (by omega)]; exact h2 y (by omega) hyi
theorem Ins.close {a i j : Nat} {d : Nat → Int} (h : Ins a i j d) (hj : j = a ∨ (a < j ∧ d (j - 1) ≤ d j)) (hi : j ≤ i) : Asc a (i + 1) d := by
  obtain ⟨h1, h2⟩ := h
  intro x y hx hxy hy
  by_cases x1 : x = j
  · by_cases y1 : y = j
    · rw [x1, y1]; exact Int.le_refl _
    · rw [x1]; exact h2 y (by omega) (by omega)
  · by_cases y1 : y = j
    · rcases hj with hj | ⟨hj, hle⟩
      · omega
      · rw [y1]
        exact Int.le_trans (h1 x (j - 1) hx (by omega) (by omega) x1 (by omega)) hle
    · exact h1 x y hx hxy (by omega) x1 y1

set_option maxRecDepth 100000 in
set_option maxHeartbeats 4000000 in
theorem insertion_any (w : World) (g n c a b : Nat) (d : Nat → Int) (h : Rw w w g n d) (hab : a ≤ b) (hb : b ≤ n) (hn : n ≤ 1000000000) :
    Calls Try.prog 62 #[.slice (some ⟨g, 0, none⟩) n c, .int .i64 a, .int .i64 b] w fun e w' => e = .returned (.tuple #[]) ∧ ∃ d', Rw w w' g n d' ∧ Pm a b d d' ∧ Asc a b d' := by
  have H := Lib.hid h
  clear h
  go_enter Try.func62, Try.ntmps62
  go_wp2_with (fail)
  go_loopw [6] (fun p wr => ∃ i : Nat, p = .int .i64 i ∧ a + 1 ≤ i ∧ (i ≤ b ∨ i = a + 1) ∧ ∃ e, Hid (Rw w wr g n e ∧ Pm a b d e ∧ Asc a i e)) (fun p _ => b - (intOf p).toNat)
  case atStart => exact ⟨a + 1, by simp, by omega, .inr rfl, d, H.out, Pm.refl _ _ _, asc_one a d⟩
  case round =>
    obtain ⟨i, rfl, hi1, hi2, e0, hro⟩ := hrel
    by_cases hlt : i < b
    · go_wp2_with (fail)
      go_loopw [7] (fun p wr => ∃ j : Nat, p = .int .i64 j ∧ a ≤ j ∧ j ≤ i ∧ ∃ e, Hid (Rw w wr g n e ∧ Pm a b d e ∧ Ins a i j e)) (fun p _ => (intOf p).toNat)
      case atStart => exact ⟨i, rfl, by omega, Nat.le_refl _, e0, hro.out.1, hro.out.2.1, Ins.start hro.out.2.2⟩
      case round =>
        obtain ⟨j, rfl, hj1, hj2, e, hrel⟩ := hrel
        by_cases haj : a < j
        · obtain ⟨m, rfl⟩ : ∃ m, j = m + 1 := ⟨j - 1, by omega⟩
          have c0 := hrel.out.1.cell (j := m + 1) (by omega)
          have c1 := hrel.out.1.cell (j := m) (by omega)
          have f0 := hrel.out.1.free
          obtain ⟨x, hx⟩ : ∃ x, x = e (m + 1) := ⟨_, rfl⟩
          obtain ⟨y, hy⟩ : ∃ y, y = e m := ⟨_, rfl⟩
          rw [← hx] at c0; rw [← hy] at c1
          have HX := Lib.hid hx; have HY := Lib.hid hy
          have dg : decide ((a : Int) < (m : Int) + 1) = true := by simp; omega
          have b0 : (0 : Int) ≤ (m : Int) + 1 := by omega
          have b1 : (m : Int) + 1 < (n : Int) := by omega
          have b2 : (m : Int) < (n : Int) := by omega
          have wm := wrapN m (by omega)
          clear hx hy
          by_cases hl : x < y
          · have d1 : decide (x < y) = true := by simpa using hl
            have nxt : Hid (∀ nq W', (W' = ((wr.drewN nq).setCell ⟨g, m + 1, none⟩ (.int .u8 y)).setCell ⟨g, m, none⟩ (.int .u8 x)) → Rw w W' g n (sw e (m + 1) m) ∧ Pm a b d (sw e (m + 1) m) ∧ Ins a i m (sw e (m + 1) m)) := by
              rintro nq W' rfl
              have q : Rw w (wr.drewN nq) g n e := hrel.out.1.quiet ⟨nq, rfl⟩
              have := q.swap (m + 1) m
              rw [HX.out, HY.out]
              exact ⟨this, hrel.out.2.1.swap (by omega) (by omega) (by omega) (by omega), hrel.out.2.2.step (by omega) hj2 (by rw [← HX.out, ← HY.out]; exact hl)⟩
            go_wp2_with (fail)
            go_big_quiet (first | (go_at_call 68; refine Calls.quiet_of_same (less_any _ _ _)))
            go_wp2_with (fail)
            go_region
            all_goals
              go_wp2_with (fail)
              go_roundw
              case rel => exact ⟨m, rfl, by omega, by omega, _, nxt.out _ _ rfl⟩
              case measure => first | (simp [intOf]; done) | (simp [intOf]; omega)
          · have d1 : decide (x < y) = false := by simpa using hl
            have out : Hid (∀ nq, Rw w (wr.drewN nq) g n e ∧ Pm a b d e ∧ Asc a (i + 1) e) := fun nq =>
              ⟨hrel.out.1.quiet ⟨nq, rfl⟩, hrel.out.2.1, hrel.out.2.2.close (.inr ⟨by omega, by rw [Nat.add_sub_cancel, ← HX.out, ← HY.out]; omega⟩) hj2⟩
            go_wp2_with (fail)
            go_big_quiet (first | (go_at_call 68; refine Calls.quiet_of_same (less_any _ _ _)))
            go_wp2_with (fail)
            go_roundw
            case rel => exact ⟨i + 1, by go_num, by omega, by omega, _, out.out _⟩
            case measure => first | (simp [intOf]; done) | (simp [intOf]; omega)
        · have out : Hid (∀ nq, Rw w (wr.drewN nq) g n e ∧ Pm a b d e ∧ Asc a (i + 1) e) := fun nq =>
            ⟨hrel.out.1.quiet ⟨nq, rfl⟩, hrel.out.2.1, hrel.out.2.2.close (.inl (by omega)) hj2⟩
          have hj0 : ¬ ((a : Int) < (j : Int)) := by omega
          go_wp2_with (fail)
          go_big_quiet (first | (go_at_call 68; refine Calls.quiet_of_same (less_any _ _ _)))
          go_wp2_with (fail)
          go_roundw
          case rel => exact ⟨i + 1, by go_num, by omega, by omega, _, out.out _⟩
          case measure => first | (simp [intOf]; done) | (simp [intOf]; omega)
    · have hke : i = b ∨ (i = a + 1 ∧ b ≤ a) ∨ (i = a + 1 ∧ b = a + 1) := by omega
      have fin : Hid (∃ d', Rw w wr g n d' ∧ Pm a b d d' ∧ Asc a b d') := ⟨e0, hro.out.1, hro.out.2.1, fun x y hx hxy hy => hro.out.2.2 x y hx hxy (by omega)⟩
      clear hke
      go_wp2_with (fail)
      first | go_end0 | refine bodyPost_ret (results_none rfl _ _ _) rfl ?_
      exact ⟨rfl, fin.out⟩
end Go.Proofs.Ytabeljpnmmfpgaa

namespace Go.Proofs.Ytabeljpnmmfpgaa
open Go.RowKit Go.MapKept
set_option linter.unusedVariables false
set_option linter.unusedSimpArgs false

/-- The row stands, and the count of swaps in a block of its own. -/
structure Pv (w0 w : World) (g n : Nat) (d : Nat → Int) (s v : Nat) : Prop where
  rw : Rw w0 w g n d
  new : w0.heap.size ≤ s
  ne : s ≠ g
  cell : w.heap[s]? = some (.cells #[.int .i64 (v : Int)] 3 (0, 0))
theorem Pv.drewN {w0 w : World} {g n : Nat} {d : Nat → Int} {s v : Nat} (h : Pv w0 w g n d s v) (m : Nat) : Pv w0 (w.drewN m) g n d s v := ⟨h.rw.quiet ⟨m, rfl⟩, h.new, h.ne, h.cell⟩
theorem Pv.at_ {w0 w : World} {g n : Nat} {d : Nat → Int} {s v : Nat} (h : Pv w0 w g n d s v) : w.cell? ⟨s, 0, none⟩ = some (.int .i64 (v : Int)) ∧ w.frozen? ⟨s, 0, none⟩ = false := by
  constructor
  · rw [cell_of h.cell]; rfl
  · simp [World.frozen?, h.cell]
theorem Pv.inc {w0 w : World} {g n : Nat} {d : Nat → Int} {s v : Nat} (h : Pv w0 w g n d s v) : Pv w0 (w.setCell ⟨s, 0, none⟩ (.int .i64 ((v : Int) + 1))) g n d s (v + 1) := by
  obtain ⟨⟨hu, cs, h1, h2⟩, hn, hne, hc⟩ := h
  refine ⟨⟨hu.setCell (fun hl => by dsimp only at hl; omega) _, cs, ?_, h2⟩, hn, hne, ?_⟩
  · rw [heap_set_far hne.symm]; exact h1
  · rw [heap_set_cell hc]; simp

set_option maxRecDepth 100000 in
set_option maxHeartbeats 4000000 in
theorem order2_any {w0 w : World} {g n c a b : Nat} {d : Nat → Int} {s v : Nat} (h : Pv w0 w g n d s v) (ha : a < n) (hb : b < n) (hn : n ≤ 1000000000) (hv : v ≤ 1000) :
    Calls Try.prog 79 #[.slice (some ⟨g, 0, none⟩) n c, .int .i64 a, .int .i64 b, .pointer (some ⟨s, 0, none⟩)] w fun e w' => ∃ x y v' : Nat, e = .returned (.tuple #[.int .i64 x, .int .i64 y]) ∧ (x = a ∨ x = b) ∧ (y = a ∨ y = b) ∧ v' ≤ v + 1 ∧ Hid (Pv w0 w' g n d s v') := by
  have H := Lib.hid h
  have ca := h.rw.cell ha
  have cb := h.rw.cell hb
  obtain ⟨s0, s1⟩ := h.at_
  obtain ⟨x, hx⟩ : ∃ x, x = d a := ⟨_, rfl⟩
  obtain ⟨y, hy⟩ : ∃ y, y = d b := ⟨_, rfl⟩
  rw [← hx] at ca; rw [← hy] at cb
  have b0 : (a : Int) < (n : Int) := by omega
  have b1 : (b : Int) < (n : Int) := by omega
  clear h hx hy
  by_cases hl : y < x
  · have d1 : decide (y < x) = true := by simpa using hl
    have f : Hid (∀ m, Pv w0 ((w.drewN m).setCell ⟨s, 0, none⟩ (.int .i64 ((v : Int) + 1))) g n d s (v + 1)) := fun m => (H.out.drewN m).inc
    go_enter Try.func79, Try.ntmps79
    go_wp2_with (fail)
    go_big_quiet (first | (go_at_call 68; refine Calls.quiet_of_same (less_any _ _ _)))
    go_wp2_with (fail)
    go_ret2
    exact ⟨b, a, v + 1, rfl, .inr rfl, .inl rfl, Nat.le_refl _, f.out _⟩
  · have d1 : decide (y < x) = false := by simpa using hl
    have f : Hid (∀ m, Pv w0 (w.drewN m) g n d s v) := fun m => H.out.drewN m
    go_enter Try.func79, Try.ntmps79
    go_wp2_with (fail)
    go_big_quiet (first | (go_at_call 68; refine Calls.quiet_of_same (less_any _ _ _)))
    go_wp2_with (fail)
    go_ret2
    exact ⟨a, b, v, rfl, .inl rfl, .inr rfl, by omega, f.out _⟩

set_option maxRecDepth 100000 in
set_option maxHeartbeats 4000000 in
theorem median_any {w0 w : World} {g n c x y z : Nat} {d : Nat → Int} {s v : Nat} (h : Pv w0 w g n d s v) (hx : x < n) (hy : y < n) (hz : z < n) (hn : n ≤ 1000000000) (hv : v ≤ 900) :
    Calls Try.prog 77 #[.slice (some ⟨g, 0, none⟩) n c, .int .i64 x, .int .i64 y, .int .i64 z, .pointer (some ⟨s, 0, none⟩)] w fun e w' => ∃ m v' : Nat, e = .returned (.int .i64 m) ∧ (m = x ∨ m = y ∨ m = z) ∧ v' ≤ v + 3 ∧ Hid (Pv w0 w' g n d s v') := by
  have H := Lib.hid h
  clear h
  go_enter Try.func77, Try.ntmps77
  go_wp2_with (fail)
  refine (order2_any H.out hx hy hn (by omega)).mono ?_
  rintro e w1 ⟨x1, y1, v1, rfl, hx1, hy1, hv1, H1⟩
  have hy1' : y1 < n := by rcases hy1 with rfl | rfl <;> assumption
  have hx1' : x1 < n := by rcases hx1 with rfl | rfl <;> assumption
  go_wp2_with (fail)
  refine (order2_any H1.out hy1' hz hn (by omega)).mono ?_
  rintro e w2 ⟨y2, z2, v2, rfl, hy2, hz2, hv2, H2⟩
  have hy2' : y2 < n := by rcases hy2 with rfl | rfl <;> assumption
  go_wp2_with (fail)
  refine (order2_any H2.out hx1' hy2' hn (by omega)).mono ?_
  rintro e w3 ⟨x3, y3, v3, rfl, hx3, hy3, hv3, H3⟩
  have fin : y3 = x ∨ y3 = y ∨ y3 = z := by omega
  have hvf : v3 ≤ v + 3 := by omega
  clear hx1 hy1 hy2 hz2 hx3 hy3
  go_wp2_with (fail)
  go_ret
  exact ⟨y3, v3, rfl, fin, hvf, H3⟩

set_option maxRecDepth 100000 in
set_option maxHeartbeats 4000000 in
theorem choosePivot_any (w0 w : World) (g n c a b : Nat) (d : Nat → Int) (h : Rw w0 w g n d) (hg : g < w.heap.size) (hl8 : a + 8 ≤ b) (hl50 : b < a + 50) (hb : b ≤ n) (hn : n ≤ 1000000000) :
    Calls Try.prog 65 #[.slice (some ⟨g, 0, none⟩) n c, .int .i64 a, .int .i64 b] w fun e w' => ∃ p k : Nat, e = .returned (.tuple #[.int .i64 p, .int .i64 k]) ∧ a ≤ p ∧ p < b ∧ k < 2 ∧ Hid (Rw w0 w' g n d) := by
  have st : Hid (Pv w0 (w.alloc (.cells #[.int .i64 0] 3)) g n d w.heap.size 0) := ⟨h.next ((Below.refl _ _).alloc (Nat.le_refl _) _), h.upd.size, by omega, heap_alloc_at w _⟩
  have e1 : ((a : Int) + ((b : Int) - (a : Int)) / 4) = ((a + (b - a) / 4 : Nat) : Int) := by omega
  have e2 : ((a : Int) + ((b : Int) - (a : Int)) / 4 * 2) = ((a + (b - a) / 4 * 2 : Nat) : Int) := by omega
  have e3 : ((a : Int) + ((b : Int) - (a : Int)) / 4 * 3) = ((a + (b - a) / 4 * 3 : Nat) : Int) := by omega
  have E1 := Lib.hid e1; have E2 := Lib.hid e2; have E3 := Lib.hid e3
  clear h e1 e2 e3
  go_enter Try.func65, Try.ntmps65
  go_wp2_with (fail)
  rw [E1.out, E2.out, E3.out]
  refine (median_any st.out (by omega) (by omega) (by omega) hn (by omega)).mono ?_
  rintro e w1 ⟨m, v, rfl, hm, hv, H1⟩
  have hm1 : a ≤ m := by omega
  have hm2 : m < b := by omega
  obtain ⟨c0, c1⟩ := H1.out.at_
  have fin := Lib.hid H1.out.rw
  clear hm H1
  by_cases hv0 : v = 0
  · subst hv0
    go_wp2_with (fail)
    go_ret2
    exact ⟨m, 1, rfl, hm1, hm2, by omega, fin⟩
  · have d0 : ((v : Int) == 0) = false := by simp; omega
    have d1 : ((v : Int) == 12) = false := by simp; omega
    go_wp2_with (fail)
    go_ret2
    exact ⟨m, 0, rfl, hm1, hm2, by omega, fin⟩
end Go.Proofs.Ytabeljpnmmfpgaa

namespace Go.Proofs.Ytabeljpnmmfpgaa
open Go.RowKit Go.MapKept
set_option linter.unusedVariables false
set_option linter.unusedSimpArgs false

theorem Asc.more {a i : Nat} {d : Nat → Int} (h : Asc a i d) (ha : a < i) (hl : d (i - 1) ≤ d i) : Asc a (i + 1) d := fun x y hx hxy hy => by
  by_cases e : y = i
  · by_cases e2 : x = i
    · rw [e, e2]; exact Int.le_refl _
    · rw [e]; exact Int.le_trans (h x (i - 1) hx (by omega) (by omega)) hl
  · exact h x y hx hxy (by omega)

set_option maxRecDepth 100000 in
set_option maxHeartbeats 4000000 in
theorem partialIns_any (w : World) (g n c a b : Nat) (d : Nat → Int) (h : Rw w w g n d) (hab : a < b) (hl50 : b < a + 50) (hb : b ≤ n) (hn : n ≤ 1000000000) :
    Calls Try.prog 67 #[.slice (some ⟨g, 0, none⟩) n c, .int .i64 a, .int .i64 b] w fun e w' => ∃ r : Bool, e = .returned (.bool r) ∧ Hid (r = true → Asc a b d) ∧ Hid (Rw w w' g n d) := by
  have H := Lib.hid h
  clear h
  go_enter Try.func67, Try.ntmps67
  go_wp2_with (fail)
  go_loopw [7, 8] (fun p q wr => p = .int .i64 ((a : Int) + 1) ∧ q = .int .i64 0 ∧ Hid (Rw w wr g n d)) (fun _ _ _ => 0)
  case atStart => exact ⟨rfl, rfl, H⟩
  case round =>
    obtain ⟨rfl, rfl, H0⟩ := hrel
    go_wp2_with (fail)
    go_loopw [7] (fun p wr => ∃ i : Nat, p = .int .i64 i ∧ a + 1 ≤ i ∧ i ≤ b ∧ Hid (Rw w wr g n d ∧ Asc a i d)) (fun p _ => b - (intOf p).toNat)
    case atStart => exact ⟨a + 1, by go_num, by omega, by omega, H0.out, asc_one a d⟩
    case round =>
      obtain ⟨i, rfl, hi1, hi2, hrel⟩ := hrel
      by_cases hlt : i < b
      · obtain ⟨m, rfl⟩ : ∃ m, i = m + 1 := ⟨i - 1, by omega⟩
        have c0 := hrel.out.1.cell (j := m + 1) (by omega)
        have c1 := hrel.out.1.cell (j := m) (by omega)
        obtain ⟨x, hx⟩ : ∃ x, x = d (m + 1) := ⟨_, rfl⟩
        obtain ⟨y, hy⟩ : ∃ y, y = d m := ⟨_, rfl⟩
        rw [← hx] at c0; rw [← hy] at c1
        have HX := Lib.hid hx; have HY := Lib.hid hy
        have dg : decide ((m : Int) + 1 < (b : Int)) = true := by simp; omega
        have b0 : (0 : Int) ≤ (m : Int) + 1 := by omega
        have b1 : (m : Int) + 1 < (n : Int) := by omega
        have b2 : (m : Int) < (n : Int) := by omega
        have wm := wrapN m (by omega)
        clear hx hy
        by_cases hl : x < y
        · have d1 : decide (x < y) = true := by simpa using hl
          have dz : (((m : Int) + 1) == (b : Int)) = false := by simp; omega
          have dl : decide ((b : Int) - (a : Int) < 50) = true := by simp; omega
          have out : Hid (∀ nq, Rw w (wr.drewN nq) g n d) := fun nq => hrel.out.1.quiet ⟨nq, rfl⟩
          go_wp2_with (fail)
          go_big_quiet (first | (go_at_call 68; refine Calls.quiet_of_same (less_any _ _ _)))
          go_wp2_with (fail)
          go_ret
          exact ⟨false, rfl, (show _ → _ from fun h => by cases h), out.out _⟩
        · have d1 : decide (x < y) = false := by simpa using hl
          have nxt : Hid (∀ nq, Rw w (wr.drewN nq) g n d ∧ Asc a (m + 1 + 1) d) := fun nq => ⟨hrel.out.1.quiet ⟨nq, rfl⟩, hrel.out.2.more (by omega) (by rw [Nat.add_sub_cancel, ← HX.out, ← HY.out]; omega)⟩
          go_wp2_with (fail)
          go_big_quiet (first | (go_at_call 68; refine Calls.quiet_of_same (less_any _ _ _)))
          go_wp2_with (fail)
          go_roundw
          case rel => exact ⟨m + 1 + 1, by go_num, by omega, by omega, nxt.out _⟩
          case measure => first | (simp [intOf]; done) | (simp [intOf]; omega)
      · have hke : i = b := by omega
        have out : Hid (∀ nq, Rw w (wr.drewN nq) g n d) := fun nq => hrel.out.1.quiet ⟨nq, rfl⟩
        have asc : Hid (Asc a b d) := hke ▸ hrel.out.2
        subst hke
        clear hrel hi2
        go_wp2_with (fail)
        go_big_quiet (first | (go_at_call 68; refine Calls.quiet_of_same (less_any _ _ _)))
        go_wp2_with (fail)
        go_ret
        exact ⟨true, rfl, (show _ → _ from fun _ => asc.out), out.out _⟩
end Go.Proofs.Ytabeljpnmmfpgaa

namespace Go.Proofs.Ytabeljpnmmfpgaa
open Go.RowKit Go.MapKept
set_option linter.unusedVariables false
set_option linter.unusedSimpArgs false

/-- While the partition runs: the pivot lies at a, what is less ahead of i, what is not behind j. -/
structure Pt (w W : World) (g n : Nat) (d : Nat → Int) (a b i j : Nat) (x : Int) (e : Nat → Int) : Prop where
  rw : Rw w W g n e
  pm : Pm a b d e
  piv : e a = x
  lo : ∀ k, a + 1 ≤ k → k < i → e k < x
  hi : ∀ k, j < k → k < b → x ≤ e k
  ai : a + 1 ≤ i
  ij : i ≤ j + 1
  jb : j < b
theorem Pt.drewN {w W : World} {g n : Nat} {d : Nat → Int} {a b i j : Nat} {x : Int} {e : Nat → Int} (h : Pt w W g n d a b i j x e) (m : Nat) : Pt w (W.drewN m) g n d a b i j x e := { h with rw := h.rw.quiet ⟨m, rfl⟩ }
theorem Pt.start {w W : World} {g n : Nat} {d : Nat → Int} {a b p : Nat} (h : Rw w W g n (sw d a p)) (ha : a ≤ p) (hp : p < b) : Pt w W g n d a b (a + 1) (b - 1) (d p) (sw d a p) :=
  ⟨h, (Pm.refl _ _ _).swap (Nat.le_refl _) (by omega) ha hp, by unfold sw; rw [if_pos rfl], fun k h1 h2 => by omega, fun k h1 h2 => by omega, Nat.le_refl _, by omega, by omega⟩
theorem Pt.up {w W : World} {g n : Nat} {d : Nat → Int} {a b i j : Nat} {x : Int} {e : Nat → Int} (h : Pt w W g n d a b i j x e) (hij : i ≤ j) (hl : e i < x) : Pt w W g n d a b (i + 1) j x e :=
  { h with lo := fun k h1 h2 => by
             by_cases ek : k = i
             · rw [ek]; exact hl
             · exact h.lo k h1 (by omega)
           ai := by have := h.ai; omega
           ij := by omega }
theorem Pt.down {w W : World} {g n : Nat} {d : Nat → Int} {a b i j : Nat} {x : Int} {e : Nat → Int} (h : Pt w W g n d a b i (j + 1) x e) (hij : i ≤ j + 1) (hl : x ≤ e (j + 1)) : Pt w W g n d a b i j x e :=
  { h with hi := fun k h1 h2 => by
             by_cases ek : k = j + 1
             · rw [ek]; exact hl
             · exact h.hi k (by omega) h2
           ij := hij
           jb := by have := h.jb; omega }
theorem Pt.swap {w W W' : World} {g n : Nat} {d : Nat → Int} {a b i j : Nat} {x : Int} {e : Nat → Int} (h : Pt w W g n d a b i (j + 1) x e) (hij : i < j + 1) (hi : x ≤ e i) (hj : e (j + 1) < x) (hr : Rw w W' g n (sw e i (j + 1))) : Pt w W' g n d a b (i + 1) j x (sw e i (j + 1)) := by
  have h1 := h.ai; have h2 := h.jb
  refine ⟨hr, h.pm.swap (by omega) (by omega) (by omega) h2, ?_, ?_, ?_, by omega, by omega, by omega⟩
  · unfold sw; rw [if_neg (by omega), if_neg (by omega)]; exact h.piv
  · intro k k1 k2
    unfold sw
    by_cases e1 : k = i
    · rw [if_pos e1]; exact hj
    · rw [if_neg e1, if_neg (by omega)]; exact h.lo k k1 (by omega)
  · intro k k1 k2
    unfold sw
    rw [if_neg (by omega)]
    by_cases e2 : k = j + 1
    · rw [if_pos e2]; exact hi
    · rw [if_neg e2]; exact h.hi k (by omega) k2

/-- What the partition leaves. -/
structure PtEnd (w W : World) (g n : Nat) (d : Nat → Int) (a b m : Nat) (e : Nat → Int) : Prop where
  rw : Rw w W g n e
  pm : Pm a b d e
  am : a ≤ m
  mb : m < b
  lo : ∀ k, a ≤ k → k < m → e k < e m
  hi : ∀ k, m < k → k < b → e m ≤ e k
theorem Pt.done {w W W' : World} {g n : Nat} {d : Nat → Int} {a b i j : Nat} {x : Int} {e : Nat → Int} (h : Pt w W g n d a b i j x e) (hij : j < i) (hr : Rw w W' g n (sw e j a)) : PtEnd w W' g n d a b j (sw e j a) := by
  have h1 := h.ai; have h2 := h.jb; have h3 := h.ij
  have em : sw e j a j = x := by unfold sw; rw [if_pos rfl]; exact h.piv
  refine ⟨hr, h.pm.swap (by omega) h2 (Nat.le_refl _) (by omega), by omega, h2, ?_, ?_⟩
  · intro k k1 k2
    rw [em]
    unfold sw
    rw [if_neg (by omega)]
    by_cases e2 : k = a
    · rw [if_pos e2]; exact h.lo j (by omega) (by omega)
    · rw [if_neg e2]; exact h.lo k (by omega) (by omega)
  · intro k k1 k2
    rw [em]
    unfold sw
    rw [if_neg (by omega), if_neg (by omega)]
    exact h.hi k k1 k2

set_option maxRecDepth 100000 in
set_option maxHeartbeats 8000000 in
theorem partition_any (w : World) (g n c a b p : Nat) (d : Nat → Int) (h : Rw w w g n d) (hap : a ≤ p) (hpb : p < b) (hb : b ≤ n) (hn : n ≤ 1000000000) :
    Calls Try.prog 70 #[.slice (some ⟨g, 0, none⟩) n c, .int .i64 a, .int .i64 b, .int .i64 p] w fun e w' => ∃ (m : Nat) (r : Bool), e = .returned (.tuple #[.int .i64 m, .bool r]) ∧ Hid (∃ e, PtEnd w w' g n d a b m e) := by
  obtain ⟨q, hq⟩ : ∃ q, b = q + 1 := ⟨b - 1, by omega⟩
  have H := Lib.hid h
  have ca := h.cell (j := a) (by omega)
  have cp := h.cell (j := p) (by omega)
  have f0 := h.free
  obtain ⟨y0, hx⟩ : ∃ y0, y0 = d a := ⟨_, rfl⟩
  obtain ⟨x, hy⟩ : ∃ x, x = d p := ⟨_, rfl⟩
  have b0 : (a : Int) < (n : Int) := by omega
  have b1 : (p : Int) < (n : Int) := by omega
  have sv := (h.set a x).cell (j := p) (by omega)
  obtain ⟨vv, hvv⟩ : ∃ vv, (w.setCell ⟨g, a, none⟩ (.int .u8 x)).cell? ⟨g, p, none⟩ = some vv := ⟨_, sv⟩
  have st : Hid (∀ W', W' = ((w.setCell ⟨g, a, none⟩ (.int .u8 x)).setCell ⟨g, p, none⟩ (.int .u8 y0)).drew → Pt w W' g n d a b (a + 1) q x (sw d a p)) := by
    rintro W' rfl
    rw [hx, hy]
    have h2 := Pt.start (b := b) ((h.swap a p).quiet ⟨1, rfl⟩) hap hpb
    rw [show b - 1 = q by omega] at h2
    exact h2
  rw [← hx] at ca; rw [← hy] at cp
  have HQ : Hid ((b : Int) - 1 = (q : Int)) := show _ = _ by omega
  clear h hx hy sv hq
  go_enter Try.func70, Try.ntmps70
  go_wp2_with (fail)
  go_region
  all_goals
    have P0 := Lib.hid (st.out _ rfl)
    obtain ⟨e1, he1⟩ : ∃ e1, e1 = sw d a p := ⟨_, rfl⟩
    rw [← he1] at P0
    clear st ca cp f0 hvv he1
    go_upto_region 2 with (fail)
    go_cut [10, 11] (fun u v wx => u = .int .i64 ((a : Int) + 1) ∧ v = .int .i64 (q : Int) ∧ Hid (Pt w wx g n d a b (a + 1) q x e1))
    case first =>
      go_wp2_with (fail)
      go_meet
      exact ⟨rfl, by first | rw [HQ.out] | rfl, P0⟩
    case rest =>
      obtain ⟨rfl, rfl, P0⟩ := hcut
      go_upto_block 0 with (fail)
      go_cut [10] (fun p wx => ∃ i : Nat, p = .int .i64 i ∧ a + 1 ≤ i ∧ Hid (Pt w wx g n d a b i q x e1) ∧ Hid (q < i ∨ x ≤ e1 i))
      case first =>
        go_wp2_with (fail)
        go_loopw [10] (fun p wr => ∃ i : Nat, p = .int .i64 i ∧ a + 1 ≤ i ∧ Hid (Pt w wr g n d a b i q x e1)) (fun p _ => b - (intOf p).toNat)
        case atStart => exact ⟨a + 1, by go_num, Nat.le_refl _, P0⟩
        case round =>
          obtain ⟨i, rfl, hi0, hr⟩ := hrel
          have q1 := hr.out.ai
          have q2 := hr.out.jb
          have q3 := hr.out.ij
          by_cases hij : i ≤ q
          · have ci := hr.out.rw.cell (j := i) (by omega)
            have cx := hr.out.rw.cell (j := a) (by omega)
            rw [hr.out.piv] at cx
            obtain ⟨y, hy⟩ : ∃ y, y = e1 i := ⟨_, rfl⟩
            rw [← hy] at ci
            have HY := Lib.hid hy
            have dg : decide ((i : Int) ≤ (q : Int)) = true := by simp; omega
            have z0 : (i : Int) < (n : Int) := by omega
            have z1 : (a : Int) < (n : Int) := by omega
            clear hy
            by_cases hl : y < x
            · have d1 : decide (y < x) = true := by simpa using hl
              have nxt : Hid (∀ nq, Pt w (wr.drewN nq) g n d a b (i + 1) q x e1) := fun nq => (hr.out.drewN nq).up hij (by rw [← HY.out]; exact hl)
              go_wp2_with (fail)
              go_big_quiet (first | (go_at_call 68; refine Calls.quiet_of_same (less_any _ _ _)))
              go_wp2_with (fail)
              go_roundw
              case rel => exact ⟨i + 1, by go_num, by omega, nxt.out _⟩
              case measure => first | (simp [intOf]; done) | (simp [intOf]; omega)
            · have d1 : decide (y < x) = false := by simpa using hl
              have out : Hid (∀ nq, Pt w (wr.drewN nq) g n d a b i q x e1) := fun nq => hr.out.drewN nq
              have ex : Hid (q < i ∨ x ≤ e1 i) := .inr (by rw [← HY.out]; omega)
              go_wp2_with (fail)
              go_big_quiet (first | (go_at_call 68; refine Calls.quiet_of_same (less_any _ _ _)))
              go_wp2_with (fail)
              go_meet
              exact ⟨i, rfl, hi0, out.out _, ex⟩
          · have out : Hid (∀ nq, Pt w (wr.drewN nq) g n d a b i q x e1) := fun nq => hr.out.drewN nq
            have ex : Hid (q < i ∨ x ≤ e1 i) := .inl (by omega)
            clear hr q1 q2 q3
            go_wp2_with (fail)
            go_big_quiet (first | (go_at_call 68; refine Calls.quiet_of_same (less_any _ _ _)))
            go_wp2_with (fail)
            go_meet
            exact ⟨i, rfl, hi0, out.out _, ex⟩
      case rest =>
        obtain ⟨i1, rfl, hi1, P0, X1⟩ := hcut
        go_upto_block 2 with (fail)
        go_cut [11] (fun p wx => ∃ j : Nat, p = .int .i64 j ∧ j ≤ q ∧ Hid (Pt w wx g n d a b i1 j x e1) ∧ Hid (j < i1 ∨ e1 j < x))
        case first =>
          go_wp2_with (fail)
          go_loopw [11] (fun p wr => ∃ j : Nat, p = .int .i64 j ∧ j ≤ q ∧ Hid (Pt w wr g n d a b i1 j x e1)) (fun p _ => (intOf p).toNat)
          case atStart => exact ⟨q, by go_num, Nat.le_refl _, P0⟩
          case round =>
            obtain ⟨j, rfl, hj0, hr⟩ := hrel
            have q1 := hr.out.ai
            have q2 := hr.out.jb
            have q3 := hr.out.ij
            by_cases hij : i1 ≤ j
            · obtain ⟨m, rfl⟩ : ∃ m, j = m + 1 := ⟨j - 1, by omega⟩
              have cj := hr.out.rw.cell (j := m + 1) (by omega)
              have cx := hr.out.rw.cell (j := a) (by omega)
              rw [hr.out.piv] at cx
              obtain ⟨y, hy⟩ : ∃ y, y = e1 (m + 1) := ⟨_, rfl⟩
              rw [← hy] at cj
              have HY := Lib.hid hy
              have dg : decide ((i1 : Int) ≤ (m : Int) + 1) = true := by simp; omega
              have z0 : (m : Int) + 1 < (n : Int) := by omega
              have z1 : (a : Int) < (n : Int) := by omega
              have z2 : (0 : Int) ≤ (m : Int) + 1 := by omega
              have wm := wrapN m (by omega)
              clear hy
              by_cases hl : y < x
              · have d1 : decide (y < x) = true := by simpa using hl
                have out : Hid (∀ nq, Pt w (wr.drewN nq) g n d a b i1 (m + 1) x e1) := fun nq => hr.out.drewN nq
                have ex : Hid (m + 1 < i1 ∨ e1 (m + 1) < x) := .inr (by rw [← HY.out]; exact hl)
                go_wp2_with (fail)
                go_big_quiet (first | (go_at_call 68; refine Calls.quiet_of_same (less_any _ _ _)))
                go_wp2_with (fail)
                go_meet
                exact ⟨m + 1, by go_num, hj0, out.out _, ex⟩
              · have d1 : decide (y < x) = false := by simpa using hl
                have nxt : Hid (∀ nq, Pt w (wr.drewN nq) g n d a b i1 m x e1) := fun nq => (hr.out.drewN nq).down (by omega) (by rw [← HY.out]; omega)
                go_wp2_with (fail)
                go_big_quiet (first | (go_at_call 68; refine Calls.quiet_of_same (less_any _ _ _)))
                go_wp2_with (fail)
                go_roundw
                case rel => first | exact ⟨m, by go_num, by omega, nxt.out _⟩ | exact ⟨_, _, _, _, _, _, _, _, _, _, _, _, _, _, _, _, _, _, ⟨m, rfl, by omega, nxt.out _⟩, rfl⟩
                case measure => first | (simp [intOf]; done) | (simp [intOf]; omega)
            · have out : Hid (∀ nq, Pt w (wr.drewN nq) g n d a b i1 j x e1) := fun nq => hr.out.drewN nq
              have ex : Hid (j < i1 ∨ e1 j < x) := .inl (by omega)
              clear hr q1 q2 q3
              go_wp2_with (fail)
              go_big_quiet (first | (go_at_call 68; refine Calls.quiet_of_same (less_any _ _ _)))
              go_wp2_with (fail)
              go_meet
              exact ⟨j, rfl, hj0, out.out _, ex⟩
        case rest =>
          obtain ⟨j1, rfl, hj1, P1, X2⟩ := hcut
          clear P0
          have s1 := P1.out.ij
          by_cases hgt : j1 < i1
          · have dgt : decide ((j1 : Int) < (i1 : Int)) = true := by simp; omega
            have r1 := P1.out.ai
            have r2 := P1.out.jb
            have cj := P1.out.rw.cell (j := j1) (by omega)
            have cx := P1.out.rw.cell (j := a) (by omega)
            have ff := P1.out.rw.free
            have sv := (P1.out.rw.set j1 (e1 a)).cell (j := a) (by omega)
            obtain ⟨y, hy⟩ : ∃ y, y = e1 j1 := ⟨_, rfl⟩
            obtain ⟨u, hu⟩ : ∃ u, u = e1 a := ⟨_, rfl⟩
            rw [← hy] at cj
            rw [← hu] at cx sv
            obtain ⟨vv, hvv⟩ : ∃ vv, (wc.setCell ⟨g, j1, none⟩ (.int .u8 u)).cell? ⟨g, a, none⟩ = some vv := ⟨_, sv⟩
            have z0 : (j1 : Int) < (n : Int) := by omega
            have z1 : (a : Int) < (n : Int) := by omega
            have fin : Hid (∀ W', W' = ((wc.setCell ⟨g, j1, none⟩ (.int .u8 u)).setCell ⟨g, a, none⟩ (.int .u8 y)).drew → ∃ e, PtEnd w W' g n d a b j1 e) := by
              rintro W' rfl
              rw [hy, hu]
              exact ⟨_, P1.out.done (by omega) ((P1.out.rw.swap j1 a).quiet ⟨1, rfl⟩)⟩
            clear hy hu sv
            go_wp2_with (fail)
            go_region
            all_goals
              go_wp2_with (fail)
              go_ret2
              exact ⟨j1, true, rfl, fin.out _ rfl⟩
          · have dgt : decide ((j1 : Int) < (i1 : Int)) = false := by simp; omega
            have r1 := P1.out.ai
            have r2 := P1.out.jb
            have hlt : i1 < j1 := by
              rcases Nat.lt_or_ge i1 j1 with h | h
              · exact h
              · have heq : i1 = j1 := by omega
                have t1 := X1.out
                have t2 := X2.out
                rw [heq] at t1
                omega
            have hxi : x ≤ e1 i1 := by have := X1.out; omega
            have hxj : e1 j1 < x := by have := X2.out; omega
            obtain ⟨m, rfl⟩ : ∃ m, j1 = m + 1 := ⟨j1 - 1, by omega⟩
            have ci := P1.out.rw.cell (j := i1) (by omega)
            have cj := P1.out.rw.cell (j := m + 1) (by omega)
            have ff := P1.out.rw.free
            obtain ⟨y, hy⟩ : ∃ y, y = e1 i1 := ⟨_, rfl⟩
            obtain ⟨u, hu⟩ : ∃ u, u = e1 (m + 1) := ⟨_, rfl⟩
            rw [← hy] at ci
            rw [← hu] at cj
            have sv := (P1.out.rw.set i1 u).cell (j := m + 1) (by omega)
            obtain ⟨vv, hvv⟩ : ∃ vv, (wc.setCell ⟨g, i1, none⟩ (.int .u8 u)).cell? ⟨g, m + 1, none⟩ = some vv := ⟨_, sv⟩
            have z0 : (i1 : Int) < (n : Int) := by omega
            have z1 : (m : Int) + 1 < (n : Int) := by omega
            have z2 : (0 : Int) ≤ (m : Int) + 1 := by omega
            have wm := wrapN m (by omega)
            have nxt : Hid (∀ W', W' = ((wc.setCell ⟨g, i1, none⟩ (.int .u8 u)).setCell ⟨g, m + 1, none⟩ (.int .u8 y)).drew → Pt w W' g n d a b (i1 + 1) m x (sw e1 i1 (m + 1))) := by
              rintro W' rfl
              rw [hy, hu]
              exact P1.out.swap hlt hxi hxj ((P1.out.rw.swap i1 (m + 1)).quiet ⟨1, rfl⟩)
            clear hy hu sv hxi hxj
            go_wp2_with (fail)
            go_region
            all_goals
              go_wp2_with (fail)
              go_loopw [10, 11] (fun p q wr => ∃ (i j : Nat) (e : Nat → Int), p = .int .i64 i ∧ q = .int .i64 j ∧ Hid (Pt w wr g n d a b i j x e)) (fun p q _ => (intOf q - intOf p + 1).toNat)
              case atStart => exact ⟨i1 + 1, m, _, by go_num, by go_num, nxt.out _ rfl⟩
              case round =>
                obtain ⟨i3, j3, e3, rfl, rfl, P3⟩ := hrel
                go_upto_block 6 with (fail)
                go_cut [10] (fun p wx => ∃ i : Nat, p = .int .i64 i ∧ i3 ≤ i ∧ Hid (Pt w wx g n d a b i j3 x e3) ∧ Hid (j3 < i ∨ x ≤ e3 i))
                case first =>
                  go_wp2_with (fail)
                  go_loopw [10] (fun p wr => ∃ i : Nat, p = .int .i64 i ∧ i3 ≤ i ∧ Hid (Pt w wr g n d a b i j3 x e3)) (fun p _ => b - (intOf p).toNat)
                  case atStart => exact ⟨i3, by go_num, Nat.le_refl _, P3⟩
                  case round =>
                    obtain ⟨i, rfl, hi0, hr⟩ := hrel
                    have q1 := hr.out.ai
                    have q2 := hr.out.jb
                    have q3 := hr.out.ij
                    by_cases hij : i ≤ j3
                    · have ci := hr.out.rw.cell (j := i) (by omega)
                      have cx := hr.out.rw.cell (j := a) (by omega)
                      rw [hr.out.piv] at cx
                      obtain ⟨y, hy⟩ : ∃ y, y = e3 i := ⟨_, rfl⟩
                      rw [← hy] at ci
                      have HY := Lib.hid hy
                      have dg : decide ((i : Int) ≤ (j3 : Int)) = true := by simp; omega
                      have z0 : (i : Int) < (n : Int) := by omega
                      have z1 : (a : Int) < (n : Int) := by omega
                      clear hy
                      by_cases hl : y < x
                      · have d1 : decide (y < x) = true := by simpa using hl
                        have nxt : Hid (∀ nq, Pt w (wr.drewN nq) g n d a b (i + 1) j3 x e3) := fun nq => (hr.out.drewN nq).up hij (by rw [← HY.out]; exact hl)
                        go_wp2_with (fail)
                        go_big_quiet (first | (go_at_call 68; refine Calls.quiet_of_same (less_any _ _ _)))
                        go_wp2_with (fail)
                        go_roundw
                        case rel => exact ⟨i + 1, by go_num, by omega, nxt.out _⟩
                        case measure => first | (simp [intOf]; done) | (simp [intOf]; omega)
                      · have d1 : decide (y < x) = false := by simpa using hl
                        have out : Hid (∀ nq, Pt w (wr.drewN nq) g n d a b i j3 x e3) := fun nq => hr.out.drewN nq
                        have ex : Hid (j3 < i ∨ x ≤ e3 i) := .inr (by rw [← HY.out]; omega)
                        go_wp2_with (fail)
                        go_big_quiet (first | (go_at_call 68; refine Calls.quiet_of_same (less_any _ _ _)))
                        go_wp2_with (fail)
                        go_meet
                        exact ⟨i, rfl, hi0, out.out _, ex⟩
                    · have out : Hid (∀ nq, Pt w (wr.drewN nq) g n d a b i j3 x e3) := fun nq => hr.out.drewN nq
                      have ex : Hid (j3 < i ∨ x ≤ e3 i) := .inl (by omega)
                      clear hr q1 q2 q3
                      go_wp2_with (fail)
                      go_big_quiet (first | (go_at_call 68; refine Calls.quiet_of_same (less_any _ _ _)))
                      go_wp2_with (fail)
                      go_meet
                      exact ⟨i, rfl, hi0, out.out _, ex⟩
                case rest =>
                  obtain ⟨i4, rfl, hi4, P3, X3⟩ := hcut
                  go_upto_block 8 with (fail)
                  go_cut [11] (fun p wx => ∃ j : Nat, p = .int .i64 j ∧ j ≤ j3 ∧ Hid (Pt w wx g n d a b i4 j x e3) ∧ Hid (j < i4 ∨ e3 j < x))
                  case first =>
                    go_wp2_with (fail)
                    go_loopw [11] (fun p wr => ∃ j : Nat, p = .int .i64 j ∧ j ≤ j3 ∧ Hid (Pt w wr g n d a b i4 j x e3)) (fun p _ => (intOf p).toNat)
                    case atStart => exact ⟨j3, by go_num, Nat.le_refl _, P3⟩
                    case round =>
                      obtain ⟨j, rfl, hj0, hr⟩ := hrel
                      have q1 := hr.out.ai
                      have q2 := hr.out.jb
                      have q3 := hr.out.ij
                      by_cases hij : i4 ≤ j
                      · obtain ⟨m, rfl⟩ : ∃ m, j = m + 1 := ⟨j - 1, by omega⟩
                        have cj := hr.out.rw.cell (j := m + 1) (by omega)
                        have cx := hr.out.rw.cell (j := a) (by omega)
                        rw [hr.out.piv] at cx
                        obtain ⟨y, hy⟩ : ∃ y, y = e3 (m + 1) := ⟨_, rfl⟩
                        rw [← hy] at cj
                        have HY := Lib.hid hy
                        have dg : decide ((i4 : Int) ≤ (m : Int) + 1) = true := by simp; omega
                        have z0 : (m : Int) + 1 < (n : Int) := by omega
                        have z1 : (a : Int) < (n : Int) := by omega
                        have z2 : (0 : Int) ≤ (m : Int) + 1 := by omega
                        have wm := wrapN m (by omega)
                        clear hy
                        by_cases hl : y < x
                        · have d1 : decide (y < x) = true := by simpa using hl
                          have out : Hid (∀ nq, Pt w (wr.drewN nq) g n d a b i4 (m + 1) x e3) := fun nq => hr.out.drewN nq
                          have ex : Hid (m + 1 < i4 ∨ e3 (m + 1) < x) := .inr (by rw [← HY.out]; exact hl)
                          go_wp2_with (fail)
                          go_big_quiet (first | (go_at_call 68; refine Calls.quiet_of_same (less_any _ _ _)))
                          go_wp2_with (fail)
                          go_meet
                          exact ⟨m + 1, by go_num, hj0, out.out _, ex⟩
                        · have d1 : decide (y < x) = false := by simpa using hl
                          have nxt : Hid (∀ nq, Pt w (wr.drewN nq) g n d a b i4 m x e3) := fun nq => (hr.out.drewN nq).down (by omega) (by rw [← HY.out]; omega)
                          go_wp2_with (fail)
                          go_big_quiet (first | (go_at_call 68; refine Calls.quiet_of_same (less_any _ _ _)))
                          go_wp2_with (fail)
                          go_roundw
                          case rel => first | exact ⟨m, by go_num, by omega, nxt.out _⟩ | exact ⟨_, _, _, _, _, _, _, _, _, _, _, _, _, _, _, _, _, _, ⟨m, rfl, by omega, nxt.out _⟩, rfl⟩
                          case measure => first | (simp [intOf]; done) | (simp [intOf]; omega)
                      · have out : Hid (∀ nq, Pt w (wr.drewN nq) g n d a b i4 j x e3) := fun nq => hr.out.drewN nq
                        have ex : Hid (j < i4 ∨ e3 j < x) := .inl (by omega)
                        clear hr q1 q2 q3
                        go_wp2_with (fail)
                        go_big_quiet (first | (go_at_call 68; refine Calls.quiet_of_same (less_any _ _ _)))
                        go_wp2_with (fail)
                        go_meet
                        exact ⟨j, rfl, hj0, out.out _, ex⟩
                  case rest =>
                    obtain ⟨j4, rfl, hj4, P4, X4⟩ := hcut
                    clear P3
                    have s3 := P4.out.ij
                    by_cases hgt : j4 < i4
                    · have dgt : decide ((j4 : Int) < (i4 : Int)) = true := by simp; omega
                      have r1 := P4.out.ai
                      have r2 := P4.out.jb
                      have cj := P4.out.rw.cell (j := j4) (by omega)
                      have cx := P4.out.rw.cell (j := a) (by omega)
                      have ff := P4.out.rw.free
                      have sv := (P4.out.rw.set j4 (e3 a)).cell (j := a) (by omega)
                      obtain ⟨y, hy⟩ : ∃ y, y = e3 j4 := ⟨_, rfl⟩
                      obtain ⟨u, hu⟩ : ∃ u, u = e3 a := ⟨_, rfl⟩
                      rw [← hy] at cj
                      rw [← hu] at cx sv
                      obtain ⟨vv, hvv⟩ : ∃ vv, (wc.setCell ⟨g, j4, none⟩ (.int .u8 u)).cell? ⟨g, a, none⟩ = some vv := ⟨_, sv⟩
                      have z0 : (j4 : Int) < (n : Int) := by omega
                      have z1 : (a : Int) < (n : Int) := by omega
                      have fin : Hid (∀ W', W' = ((wc.setCell ⟨g, j4, none⟩ (.int .u8 u)).setCell ⟨g, a, none⟩ (.int .u8 y)).drew → ∃ e, PtEnd w W' g n d a b j4 e) := by
                        rintro W' rfl
                        rw [hy, hu]
                        exact ⟨_, P4.out.done (by omega) ((P4.out.rw.swap j4 a).quiet ⟨1, rfl⟩)⟩
                      clear hy hu sv
                      go_wp2_with (fail)
                      go_region
                      all_goals
                        go_wp2_with (fail)
                        go_ret2
                        exact ⟨j4, false, rfl, fin.out _ rfl⟩
                    · have dgt : decide ((j4 : Int) < (i4 : Int)) = false := by simp; omega
                      have r1 := P4.out.ai
                      have r2 := P4.out.jb
                      have hlt : i4 < j4 := by
                        rcases Nat.lt_or_ge i4 j4 with h | h
                        · exact h
                        · have heq : i4 = j4 := by omega
                          have t1 := X3.out
                          have t2 := X4.out
                          rw [heq] at t1
                          omega
                      have hxi : x ≤ e3 i4 := by have := X3.out; omega
                      have hxj : e3 j4 < x := by have := X4.out; omega
                      obtain ⟨m, rfl⟩ : ∃ m, j4 = m + 1 := ⟨j4 - 1, by omega⟩
                      have ci := P4.out.rw.cell (j := i4) (by omega)
                      have cj := P4.out.rw.cell (j := m + 1) (by omega)
                      have ff := P4.out.rw.free
                      obtain ⟨y, hy⟩ : ∃ y, y = e3 i4 := ⟨_, rfl⟩
                      obtain ⟨u, hu⟩ : ∃ u, u = e3 (m + 1) := ⟨_, rfl⟩
                      rw [← hy] at ci
                      rw [← hu] at cj
                      have sv := (P4.out.rw.set i4 u).cell (j := m + 1) (by omega)
                      obtain ⟨vv, hvv⟩ : ∃ vv, (wc.setCell ⟨g, i4, none⟩ (.int .u8 u)).cell? ⟨g, m + 1, none⟩ = some vv := ⟨_, sv⟩
                      have z0 : (i4 : Int) < (n : Int) := by omega
                      have z1 : (m : Int) + 1 < (n : Int) := by omega
                      have z2 : (0 : Int) ≤ (m : Int) + 1 := by omega
                      have wm := wrapN m (by omega)
                      have nxt : Hid (∀ W', W' = ((wc.setCell ⟨g, i4, none⟩ (.int .u8 u)).setCell ⟨g, m + 1, none⟩ (.int .u8 y)).drew → Pt w W' g n d a b (i4 + 1) m x (sw e3 i4 (m + 1))) := by
                        rintro W' rfl
                        rw [hy, hu]
                        exact P4.out.swap hlt hxi hxj ((P4.out.rw.swap i4 (m + 1)).quiet ⟨1, rfl⟩)
                      clear hy hu sv hxi hxj
                      go_wp2_with (fail)
                      go_region
                      all_goals
                        go_wp2_with (fail)
                        go_roundw
                        case rel => exact ⟨i4 + 1, m, _, by go_num, by go_num, nxt.out _ rfl⟩
                        case measure => first | (simp [intOf]; done) | (simp [intOf]; omega)
end Go.Proofs.Ytabeljpnmmfpgaa

namespace Go.Proofs.Ytabeljpnmmfpgaa
open Go.RowKit Go.MapKept
set_option linter.unusedVariables false
set_option linter.unusedSimpArgs false

set_option maxRecDepth 100000 in
theorem len64_0 (w : World) : Calls Try.prog 72 #[.int .u64 0] w fun e w' => e = .returned (.int .i64 0) ∧ w' = w := by
  go_enter Try.func72, Try.ntmps72
  have e8 : Lib.len8 0 = 0 := by decide +kernel
  go_wp2
  go_ret
  exact ⟨rfl, rfl⟩
theorem len_0 (w : World) : Calls Try.prog 61 #[.int .u64 0] w fun e w' => e = .returned (.int .i64 0) ∧ w' = w := by
  go_enter Try.func61, Try.ntmps61
  go_wp2_with (go_at_call 72; refine (len64_0 _).mono ?_; rintro e w1 ⟨rfl, rfl⟩)
  go_ret
  exact ⟨rfl, rfl⟩
set_option maxRecDepth 100000 in
theorem len64_1 (w : World) : Calls Try.prog 72 #[.int .u64 1] w fun e w' => e = .returned (.int .i64 1) ∧ w' = w := by
  go_enter Try.func72, Try.ntmps72
  have e8 : Lib.len8 1 = 1 := by decide +kernel
  go_wp2
  go_ret
  exact ⟨rfl, rfl⟩
theorem len_1 (w : World) : Calls Try.prog 61 #[.int .u64 1] w fun e w' => e = .returned (.int .i64 1) ∧ w' = w := by
  go_enter Try.func61, Try.ntmps61
  go_wp2_with (go_at_call 72; refine (len64_1 _).mono ?_; rintro e w1 ⟨rfl, rfl⟩)
  go_ret
  exact ⟨rfl, rfl⟩
set_option maxRecDepth 100000 in
theorem len64_2 (w : World) : Calls Try.prog 72 #[.int .u64 2] w fun e w' => e = .returned (.int .i64 2) ∧ w' = w := by
  go_enter Try.func72, Try.ntmps72
  have e8 : Lib.len8 2 = 2 := by decide +kernel
  go_wp2
  go_ret
  exact ⟨rfl, rfl⟩
theorem len_2 (w : World) : Calls Try.prog 61 #[.int .u64 2] w fun e w' => e = .returned (.int .i64 2) ∧ w' = w := by
  go_enter Try.func61, Try.ntmps61
  go_wp2_with (go_at_call 72; refine (len64_2 _).mono ?_; rintro e w1 ⟨rfl, rfl⟩)
  go_ret
  exact ⟨rfl, rfl⟩
set_option maxRecDepth 100000 in
theorem len64_3 (w : World) : Calls Try.prog 72 #[.int .u64 3] w fun e w' => e = .returned (.int .i64 2) ∧ w' = w := by
  go_enter Try.func72, Try.ntmps72
  have e8 : Lib.len8 3 = 2 := by decide +kernel
  go_wp2
  go_ret
  exact ⟨rfl, rfl⟩
theorem len_3 (w : World) : Calls Try.prog 61 #[.int .u64 3] w fun e w' => e = .returned (.int .i64 2) ∧ w' = w := by
  go_enter Try.func61, Try.ntmps61
  go_wp2_with (go_at_call 72; refine (len64_3 _).mono ?_; rintro e w1 ⟨rfl, rfl⟩)
  go_ret
  exact ⟨rfl, rfl⟩
set_option maxRecDepth 100000 in
theorem len64_4 (w : World) : Calls Try.prog 72 #[.int .u64 4] w fun e w' => e = .returned (.int .i64 3) ∧ w' = w := by
  go_enter Try.func72, Try.ntmps72
  have e8 : Lib.len8 4 = 3 := by decide +kernel
  go_wp2
  go_ret
  exact ⟨rfl, rfl⟩
theorem len_4 (w : World) : Calls Try.prog 61 #[.int .u64 4] w fun e w' => e = .returned (.int .i64 3) ∧ w' = w := by
  go_enter Try.func61, Try.ntmps61
  go_wp2_with (go_at_call 72; refine (len64_4 _).mono ?_; rintro e w1 ⟨rfl, rfl⟩)
  go_ret
  exact ⟨rfl, rfl⟩
set_option maxRecDepth 100000 in
theorem len64_5 (w : World) : Calls Try.prog 72 #[.int .u64 5] w fun e w' => e = .returned (.int .i64 3) ∧ w' = w := by
  go_enter Try.func72, Try.ntmps72
  have e8 : Lib.len8 5 = 3 := by decide +kernel
  go_wp2
  go_ret
  exact ⟨rfl, rfl⟩
theorem len_5 (w : World) : Calls Try.prog 61 #[.int .u64 5] w fun e w' => e = .returned (.int .i64 3) ∧ w' = w := by
  go_enter Try.func61, Try.ntmps61
  go_wp2_with (go_at_call 72; refine (len64_5 _).mono ?_; rintro e w1 ⟨rfl, rfl⟩)
  go_ret
  exact ⟨rfl, rfl⟩
set_option maxRecDepth 100000 in
theorem len64_6 (w : World) : Calls Try.prog 72 #[.int .u64 6] w fun e w' => e = .returned (.int .i64 3) ∧ w' = w := by
  go_enter Try.func72, Try.ntmps72
  have e8 : Lib.len8 6 = 3 := by decide +kernel
  go_wp2
  go_ret
  exact ⟨rfl, rfl⟩
theorem len_6 (w : World) : Calls Try.prog 61 #[.int .u64 6] w fun e w' => e = .returned (.int .i64 3) ∧ w' = w := by
  go_enter Try.func61, Try.ntmps61
  go_wp2_with (go_at_call 72; refine (len64_6 _).mono ?_; rintro e w1 ⟨rfl, rfl⟩)
  go_ret
  exact ⟨rfl, rfl⟩
set_option maxRecDepth 100000 in
theorem len64_7 (w : World) : Calls Try.prog 72 #[.int .u64 7] w fun e w' => e = .returned (.int .i64 3) ∧ w' = w := by
  go_enter Try.func72, Try.ntmps72
  have e8 : Lib.len8 7 = 3 := by decide +kernel
  go_wp2
  go_ret
  exact ⟨rfl, rfl⟩
theorem len_7 (w : World) : Calls Try.prog 61 #[.int .u64 7] w fun e w' => e = .returned (.int .i64 3) ∧ w' = w := by
  go_enter Try.func61, Try.ntmps61
  go_wp2_with (go_at_call 72; refine (len64_7 _).mono ?_; rintro e w1 ⟨rfl, rfl⟩)
  go_ret
  exact ⟨rfl, rfl⟩
set_option maxRecDepth 100000 in
theorem len64_8 (w : World) : Calls Try.prog 72 #[.int .u64 8] w fun e w' => e = .returned (.int .i64 4) ∧ w' = w := by
  go_enter Try.func72, Try.ntmps72
  have e8 : Lib.len8 8 = 4 := by decide +kernel
  go_wp2
  go_ret
  exact ⟨rfl, rfl⟩
theorem len_8 (w : World) : Calls Try.prog 61 #[.int .u64 8] w fun e w' => e = .returned (.int .i64 4) ∧ w' = w := by
  go_enter Try.func61, Try.ntmps61
  go_wp2_with (go_at_call 72; refine (len64_8 _).mono ?_; rintro e w1 ⟨rfl, rfl⟩)
  go_ret
  exact ⟨rfl, rfl⟩
set_option maxRecDepth 100000 in
theorem len64_9 (w : World) : Calls Try.prog 72 #[.int .u64 9] w fun e w' => e = .returned (.int .i64 4) ∧ w' = w := by
  go_enter Try.func72, Try.ntmps72
  have e8 : Lib.len8 9 = 4 := by decide +kernel
  go_wp2
  go_ret
  exact ⟨rfl, rfl⟩
theorem len_9 (w : World) : Calls Try.prog 61 #[.int .u64 9] w fun e w' => e = .returned (.int .i64 4) ∧ w' = w := by
  go_enter Try.func61, Try.ntmps61
  go_wp2_with (go_at_call 72; refine (len64_9 _).mono ?_; rintro e w1 ⟨rfl, rfl⟩)
  go_ret
  exact ⟨rfl, rfl⟩
set_option maxRecDepth 100000 in
theorem len64_10 (w : World) : Calls Try.prog 72 #[.int .u64 10] w fun e w' => e = .returned (.int .i64 4) ∧ w' = w := by
  go_enter Try.func72, Try.ntmps72
  have e8 : Lib.len8 10 = 4 := by decide +kernel
  go_wp2
  go_ret
  exact ⟨rfl, rfl⟩
theorem len_10 (w : World) : Calls Try.prog 61 #[.int .u64 10] w fun e w' => e = .returned (.int .i64 4) ∧ w' = w := by
  go_enter Try.func61, Try.ntmps61
  go_wp2_with (go_at_call 72; refine (len64_10 _).mono ?_; rintro e w1 ⟨rfl, rfl⟩)
  go_ret
  exact ⟨rfl, rfl⟩
set_option maxRecDepth 100000 in
theorem len64_11 (w : World) : Calls Try.prog 72 #[.int .u64 11] w fun e w' => e = .returned (.int .i64 4) ∧ w' = w := by
  go_enter Try.func72, Try.ntmps72
  have e8 : Lib.len8 11 = 4 := by decide +kernel
  go_wp2
  go_ret
  exact ⟨rfl, rfl⟩
theorem len_11 (w : World) : Calls Try.prog 61 #[.int .u64 11] w fun e w' => e = .returned (.int .i64 4) ∧ w' = w := by
  go_enter Try.func61, Try.ntmps61
  go_wp2_with (go_at_call 72; refine (len64_11 _).mono ?_; rintro e w1 ⟨rfl, rfl⟩)
  go_ret
  exact ⟨rfl, rfl⟩
set_option maxRecDepth 100000 in
theorem len64_12 (w : World) : Calls Try.prog 72 #[.int .u64 12] w fun e w' => e = .returned (.int .i64 4) ∧ w' = w := by
  go_enter Try.func72, Try.ntmps72
  have e8 : Lib.len8 12 = 4 := by decide +kernel
  go_wp2
  go_ret
  exact ⟨rfl, rfl⟩
theorem len_12 (w : World) : Calls Try.prog 61 #[.int .u64 12] w fun e w' => e = .returned (.int .i64 4) ∧ w' = w := by
  go_enter Try.func61, Try.ntmps61
  go_wp2_with (go_at_call 72; refine (len64_12 _).mono ?_; rintro e w1 ⟨rfl, rfl⟩)
  go_ret
  exact ⟨rfl, rfl⟩
set_option maxRecDepth 100000 in
theorem len64_13 (w : World) : Calls Try.prog 72 #[.int .u64 13] w fun e w' => e = .returned (.int .i64 4) ∧ w' = w := by
  go_enter Try.func72, Try.ntmps72
  have e8 : Lib.len8 13 = 4 := by decide +kernel
  go_wp2
  go_ret
  exact ⟨rfl, rfl⟩
theorem len_13 (w : World) : Calls Try.prog 61 #[.int .u64 13] w fun e w' => e = .returned (.int .i64 4) ∧ w' = w := by
  go_enter Try.func61, Try.ntmps61
  go_wp2_with (go_at_call 72; refine (len64_13 _).mono ?_; rintro e w1 ⟨rfl, rfl⟩)
  go_ret
  exact ⟨rfl, rfl⟩
set_option maxRecDepth 100000 in
theorem len64_14 (w : World) : Calls Try.prog 72 #[.int .u64 14] w fun e w' => e = .returned (.int .i64 4) ∧ w' = w := by
  go_enter Try.func72, Try.ntmps72
  have e8 : Lib.len8 14 = 4 := by decide +kernel
  go_wp2
  go_ret
  exact ⟨rfl, rfl⟩
theorem len_14 (w : World) : Calls Try.prog 61 #[.int .u64 14] w fun e w' => e = .returned (.int .i64 4) ∧ w' = w := by
  go_enter Try.func61, Try.ntmps61
  go_wp2_with (go_at_call 72; refine (len64_14 _).mono ?_; rintro e w1 ⟨rfl, rfl⟩)
  go_ret
  exact ⟨rfl, rfl⟩
set_option maxRecDepth 100000 in
theorem len64_15 (w : World) : Calls Try.prog 72 #[.int .u64 15] w fun e w' => e = .returned (.int .i64 4) ∧ w' = w := by
  go_enter Try.func72, Try.ntmps72
  have e8 : Lib.len8 15 = 4 := by decide +kernel
  go_wp2
  go_ret
  exact ⟨rfl, rfl⟩
theorem len_15 (w : World) : Calls Try.prog 61 #[.int .u64 15] w fun e w' => e = .returned (.int .i64 4) ∧ w' = w := by
  go_enter Try.func61, Try.ntmps61
  go_wp2_with (go_at_call 72; refine (len64_15 _).mono ?_; rintro e w1 ⟨rfl, rfl⟩)
  go_ret
  exact ⟨rfl, rfl⟩
set_option maxRecDepth 100000 in
theorem len64_16 (w : World) : Calls Try.prog 72 #[.int .u64 16] w fun e w' => e = .returned (.int .i64 5) ∧ w' = w := by
  go_enter Try.func72, Try.ntmps72
  have e8 : Lib.len8 16 = 5 := by decide +kernel
  go_wp2
  go_ret
  exact ⟨rfl, rfl⟩
theorem len_16 (w : World) : Calls Try.prog 61 #[.int .u64 16] w fun e w' => e = .returned (.int .i64 5) ∧ w' = w := by
  go_enter Try.func61, Try.ntmps61
  go_wp2_with (go_at_call 72; refine (len64_16 _).mono ?_; rintro e w1 ⟨rfl, rfl⟩)
  go_ret
  exact ⟨rfl, rfl⟩
theorem bitsLen_any (n : Nat) (w : World) (h : n ≤ 16) : Calls Try.prog 61 #[.int .u64 (n : Int)] w fun e w' => e = .returned (.int .i64 (Lib.bitLen n)) ∧ w' = w := by
  have hc : n = 0 ∨ n = 1 ∨ n = 2 ∨ n = 3 ∨ n = 4 ∨ n = 5 ∨ n = 6 ∨ n = 7 ∨ n = 8 ∨ n = 9 ∨ n = 10 ∨ n = 11 ∨ n = 12 ∨ n = 13 ∨ n = 14 ∨ n = 15 ∨ n = 16 := by omega
  rcases hc with rfl | rfl | rfl | rfl | rfl | rfl | rfl | rfl | rfl | rfl | rfl | rfl | rfl | rfl | rfl | rfl | rfl
  · have e : Lib.bitLen 0 = 0 := by decide +kernel
    rw [e]; exact len_0 w
  · have e : Lib.bitLen 1 = 1 := by decide +kernel
    rw [e]; exact len_1 w
  · have e : Lib.bitLen 2 = 2 := by decide +kernel
    rw [e]; exact len_2 w
  · have e : Lib.bitLen 3 = 2 := by decide +kernel
    rw [e]; exact len_3 w
  · have e : Lib.bitLen 4 = 3 := by decide +kernel
    rw [e]; exact len_4 w
  · have e : Lib.bitLen 5 = 3 := by decide +kernel
    rw [e]; exact len_5 w
  · have e : Lib.bitLen 6 = 3 := by decide +kernel
    rw [e]; exact len_6 w
  · have e : Lib.bitLen 7 = 3 := by decide +kernel
    rw [e]; exact len_7 w
  · have e : Lib.bitLen 8 = 4 := by decide +kernel
    rw [e]; exact len_8 w
  · have e : Lib.bitLen 9 = 4 := by decide +kernel
    rw [e]; exact len_9 w
  · have e : Lib.bitLen 10 = 4 := by decide +kernel
    rw [e]; exact len_10 w
  · have e : Lib.bitLen 11 = 4 := by decide +kernel
    rw [e]; exact len_11 w
  · have e : Lib.bitLen 12 = 4 := by decide +kernel
    rw [e]; exact len_12 w
  · have e : Lib.bitLen 13 = 4 := by decide +kernel
    rw [e]; exact len_13 w
  · have e : Lib.bitLen 14 = 4 := by decide +kernel
    rw [e]; exact len_14 w
  · have e : Lib.bitLen 15 = 4 := by decide +kernel
    rw [e]; exact len_15 w
  · have e : Lib.bitLen 16 = 5 := by decide +kernel
    rw [e]; exact len_16 w

theorem xorN (a b : Int) (h1 : 0 ≤ a) (h2 : a < 18446744073709551616) (h3 : 0 ≤ b) (h4 : b < 18446744073709551616) : ∃ y : Nat, bits .xor .u64 a b = (y : Int) ∧ y < 18446744073709551616 :=
  ⟨a.toNat ^^^ b.toNat, u64_xor a b h1 h2 h3 h4, Nat.xor_lt_two_pow (n := 64) (by omega) (by omega)⟩
theorem andN (a : Int) (m : Nat) (h1 : 0 ≤ a) (h2 : a < 18446744073709551616) (h4 : m < 18446744073709551616) : ∃ y : Nat, bits .and .u64 a (m : Int) = (y : Int) ∧ y ≤ m :=
  ⟨a.toNat &&& m, by rw [u64_and a m h1 h2 (by omega) (by omega), Int.toNat_natCast], Nat.and_le_right⟩
theorem wrapU (a : Int) : 0 ≤ IntKind.u64.wrap a ∧ IntKind.u64.wrap a < 18446744073709551616 := by
  have e : IntKind.u64.wrap a = a % 18446744073709551616 := by simp [IntKind.wrap, IntKind.bits, IntKind.signed]
  rw [e]; omega

set_option maxRecDepth 100000 in
set_option maxHeartbeats 4000000 in
theorem next_any (w : World) (s x : Nat) (h : w.heap[s]? = some (.cells #[.int .u64 (x : Int)] 122 (0, 0))) (h1 : x < 18446744073709551616) :
    Calls Try.prog 75 #[.pointer (some ⟨s, 0, none⟩)] w fun e w' => ∃ y : Nat, e = .returned (.int .u64 (y : Int)) ∧ y < 18446744073709551616 ∧ w'.heap[s]? = some (.cells #[.int .u64 (y : Int)] 122 (0, 0)) ∧ Upd w w' (fun i => i = s) := by
  have c0 : w.cell? ⟨s, 0, none⟩ = some (.int .u64 (x : Int)) := by rw [cell_of h]; rfl
  have f0 : w.frozen? ⟨s, 0, none⟩ = false := free_of h 0
  have H := Lib.hid h
  obtain ⟨v1, e1, l1⟩ := xorN (x : Int) (IntKind.u64.wrap ((x : Int) * 8192)) (by omega) (by omega) (wrapU _).1 (wrapU _).2
  obtain ⟨v2, e2, l2⟩ := xorN (v1 : Int) ((v1 : Int) / 128) (by omega) (by omega) (by omega) (by omega)
  obtain ⟨v3, e3, l3⟩ := xorN (v2 : Int) (IntKind.u64.wrap ((v2 : Int) * 131072)) (by omega) (by omega) (wrapU _).1 (wrapU _).2
  have E1 := Lib.hid e1; have E2 := Lib.hid e2; have E3 := Lib.hid e3
  have fin : Hid (∀ W', W' = (((w.setCell ⟨s, 0, none⟩ (.int .u64 (v1 : Int))).setCell ⟨s, 0, none⟩ (.int .u64 (v2 : Int))).setCell ⟨s, 0, none⟩ (.int .u64 (v3 : Int))).drew.drew.drew → W'.heap[s]? = some (.cells #[.int .u64 (v3 : Int)] 122 (0, 0)) ∧ Upd w W' (fun i => i = s)) := by
    rintro W' rfl
    refine ⟨?_, ((((((Upd.refl w (fun i => i = s)).setCell (p := ⟨s, 0, none⟩) (fun _ => rfl) _).setCell (p := ⟨s, 0, none⟩) (fun _ => rfl) _).setCell (p := ⟨s, 0, none⟩) (fun _ => rfl) _).drew).drew).drew⟩
    exact heap_set_cell (heap_set_cell (heap_set_cell h 0 _) 0 _) 0 _
  have c3 : (((w.setCell ⟨s, 0, none⟩ (.int .u64 (v1 : Int))).setCell ⟨s, 0, none⟩ (.int .u64 (v2 : Int))).setCell ⟨s, 0, none⟩ (.int .u64 (v3 : Int))).cell? ⟨s, 0, none⟩ = some (.int .u64 (v3 : Int)) := by
    rw [cell_of (heap_set_cell (heap_set_cell (heap_set_cell h 0 _) 0 _) 0 _)]; rfl
  clear h e1 e2 e3
  go_enter Try.func75, Try.ntmps75
  go_wp2_with (fail)
  go_region
  all_goals
    rw [E1.out]
    go_wp2_with (fail)
    go_region
    all_goals
      rw [E2.out]
      go_wp2_with (fail)
      go_region
      all_goals
        rw [E3.out]
        go_wp2_with (fail)
        go_ret
        exact ⟨v3, rfl, l3, fin.out _ rfl⟩

theorem bitLen_small : ∀ l : Fin 17, 8 ≤ l.val → (l.val < 16 ∧ Lib.bitLen l.val = 4) ∨ (l.val = 16 ∧ Lib.bitLen l.val = 5) := by decide +kernel

theorem pow_any (w : World) (l : Nat) (h8 : 8 ≤ l) (h16 : l ≤ 16) : Calls Try.prog 74 #[.int .i64 (l : Int)] w fun e w' => ∃ m : Nat, e = .returned (.int .u64 (m : Int)) ∧ 1 ≤ m ∧ m ≤ 2 * l ∧ w' = w := by
  have hb := Lib.hid (bitsLen_any l w (by omega))
  have wu : IntKind.u64.wrap (l : Int) = (l : Int) := by simp [IntKind.wrap, IntKind.bits, IntKind.signed]; omega
  rcases bitLen_small ⟨l, by omega⟩ h8 with ⟨h1, h2⟩ | ⟨h1, h2⟩
  · have H2 := Lib.hid h2
    clear h2
    go_enter Try.func74, Try.ntmps74
    go_wp2_with (go_at_call 61; refine hb.out.mono ?_; rintro e w1 ⟨rfl, rfl⟩; dsimp only at H2; rw [H2.out])
    go_ret
    exact ⟨16, rfl, by omega, by omega, rfl⟩
  · have H2 := Lib.hid h2
    clear h2
    go_enter Try.func74, Try.ntmps74
    go_wp2_with (go_at_call 61; refine hb.out.mono ?_; rintro e w1 ⟨rfl, rfl⟩; dsimp only at H2; rw [H2.out])
    go_ret
    exact ⟨32, rfl, by omega, by omega, rfl⟩
end Go.Proofs.Ytabeljpnmmfpgaa

namespace Go.Proofs.Ytabeljpnmmfpgaa
open Go.RowKit Go.MapKept
set_option linter.unusedVariables false
set_option linter.unusedSimpArgs false

/-- The row, and the generator's state in a block of its own. -/
structure Sh (w W : World) (g n : Nat) (d : Nat → Int) (a b s : Nat) (e : Nat → Int) : Prop where
  rw : Rw w W g n e
  pm : Pm a b d e
  new : w.heap.size ≤ s
  ne : s ≠ g
  cell : ∃ x : Nat, W.heap[s]? = some (.cells #[.int .u64 (x : Int)] 122 (0, 0)) ∧ x < 18446744073709551616
theorem Sh.after {w W W' : World} {g n : Nat} {d : Nat → Int} {a b s : Nat} {e : Nat → Int} (h : Sh w W g n d a b s e) {y : Nat} (hc : W'.heap[s]? = some (.cells #[.int .u64 (y : Int)] 122 (0, 0))) (hy : y < 18446744073709551616) (hu : Upd W W' (fun i => i = s)) : Sh w W' g n d a b s e := by
  obtain ⟨⟨hu0, cs, h1, h2⟩, hp, hn, hne, _⟩ := h
  refine ⟨⟨hu0.trans hu (fun i hi e => by have e' : i = s := e; omega), cs, hu.keep h1 (fun e => hne e.symm), h2⟩, hp, hn, hne, y, hc, hy⟩
theorem Sh.swap {w W : World} {g n : Nat} {d : Nat → Int} {a b s : Nat} {e : Nat → Int} (h : Sh w W g n d a b s e) {i j : Nat} (hi : a ≤ i) (hi' : i < b) (hj : a ≤ j) (hj' : j < b) : Sh w (((W.setCell ⟨g, i, none⟩ (.int .u8 (e j))).setCell ⟨g, j, none⟩ (.int .u8 (e i))).drew) g n d a b s (sw e i j) := by
  obtain ⟨x, hx, hl⟩ := h.cell
  refine ⟨(h.rw.swap i j).quiet ⟨1, rfl⟩, h.pm.swap hi hi' hj hj', h.new, h.ne, x, ?_, hl⟩
  show ((W.setCell _ _).setCell _ _).heap[s]? = _
  rw [heap_set_far h.ne, heap_set_far h.ne]; exact hx

set_option maxRecDepth 100000 in
set_option maxHeartbeats 8000000 in
theorem breakPatterns_any (w : World) (g n c a b : Nat) (d : Nat → Int) (h : Rw w w g n d) (h8 : a + 8 ≤ b) (h16 : b ≤ a + 16) (hb : b ≤ n) (hn : n ≤ 1000000000) :
    Calls Try.prog 64 #[.slice (some ⟨g, 0, none⟩) n c, .int .i64 a, .int .i64 b] w fun e w' => e = .returned (.tuple #[]) ∧ Hid (∃ d', Rw w w' g n d' ∧ Pm a b d d') := by
  obtain ⟨l, hl⟩ : ∃ l, b = a + l := ⟨b - a, by omega⟩
  have l8 : 8 ≤ l := by omega
  have l16 : l ≤ 16 := by omega
  have hg := h.lt
  have st : Hid (Sh w (w.alloc (.cells #[.int .u64 (l : Int)] 122)) g n d a b w.heap.size d) := ⟨h.next ((Below.refl _ _).alloc (Nat.le_refl _) _), Pm.refl _ _ _, Nat.le_refl _, by omega, l, heap_alloc_at w _, by omega⟩
  have EL : Hid ((b : Int) - (a : Int) = (l : Int)) := show _ = _ by omega
  have wx : IntKind.u64.wrap ((b : Int) - (a : Int)) = (l : Int) := by rw [EL.out]; simp [IntKind.wrap, IntKind.bits, IntKind.signed]; omega
  have HL := Lib.hid hl
  have d8 : decide ((8 : Int) ≤ (b : Int) - (a : Int)) = true := by simp; omega
  have lb : a + l ≤ n := by omega
  clear h hl
  go_enter Try.func64, Try.ntmps64
  go_wp2_with (fail)
  rw [EL.out]
  refine (pow_any _ l l8 l16).mono ?_
  rintro e w1 ⟨m, rfl, m1, m2, rfl⟩
  generalize w.heap.size = s at *
  obtain ⟨W1, hW1⟩ : ∃ W1, W1 = w.alloc (.cells #[.int .u64 (l : Int)] 122) := ⟨_, rfl⟩
  rw [← hW1] at st ⊢
  clear hW1
  obtain ⟨p0, hp0⟩ : ∃ p0, p0 = a + l / 4 * 2 - 1 := ⟨_, rfl⟩
  have EP : Hid ((a : Int) + (l : Int) / 4 * 2 - 1 = (p0 : Int)) := show _ = _ by omega
  have hq1 : a ≤ p0 := by omega
  have hq2 : p0 + 3 ≤ a + l := by omega
  have EQ : Hid ((a : Int) + (l : Int) / 4 * 2 + 1 = (p0 : Int) + 2) := show _ = _ by omega
  have em : Hid ((m : Int) - 1 = ((m - 1 : Nat) : Int)) := show _ = _ by omega
  clear hp0
  go_wp2_with (fail)
  go_loopw [9, 10] (fun p q wr => ∃ k : Nat, p = .int .i64 k ∧ p0 ≤ k ∧ k ≤ p0 + 3 ∧ ∃ e, Hid (Sh w wr g n d a b s e)) (fun p _ _ => p0 + 3 - (intOf p).toNat)
  case atStart => exact ⟨p0, by rw [EP.out], Nat.le_refl _, by omega, d, st⟩
  case round =>
    obtain ⟨k, rfl, hk1, hk2, e, hr⟩ := hrel
    by_cases hlt : k < p0 + 3
    · have dg : decide ((k : Int) ≤ (a : Int) + (l : Int) / 4 * 2 + 1) = true := by rw [EQ.out]; simp; omega
      obtain ⟨x, hx, xl⟩ := hr.out.cell
      have HX := Lib.hid hx
      clear hx
      go_wp2_with (fail)
      refine (next_any wr s x HX.out xl).mono ?_
      rintro e1 w2 ⟨y, rfl, hy, hc, hu⟩
      have h2 := Lib.hid (hr.out.after hc hy hu)
      obtain ⟨z, ez, hz⟩ := andN (y : Int) (m - 1) (by omega) (by omega) (by omega)
      rw [← em.out] at ez
      have EZ := Lib.hid ez
      have wz := wrapN z (by omega)
      clear hc hu ez
      go_upto_region 8 with (fail)
      rw [EZ.out]
      rw [show wrap64 (z : Int) = (z : Int) by unfold wrap64; omega]
      by_cases hzl : z < l
      · have dz : decide ((l : Int) ≤ (z : Int)) = false := by simp; omega
        obtain ⟨o, ho⟩ : ∃ o, o = z := ⟨_, rfl⟩
        rw [← ho] at hzl dz wz ⊢
        clear ho
        have cj := h2.out.rw.cell (j := a + o) (by omega)
        have ci := h2.out.rw.cell (j := k) (by omega)
        have ff := h2.out.rw.free
        obtain ⟨u, hu⟩ : ∃ u, u = e k := ⟨_, rfl⟩
        obtain ⟨v, hv⟩ : ∃ v, v = e (a + o) := ⟨_, rfl⟩
        rw [← hu] at ci
        rw [← hv] at cj
        have sv := (h2.out.rw.set k v).cell (j := a + o) (by omega)
        obtain ⟨vv, hvv⟩ : ∃ vv, (w2.setCell ⟨g, k, none⟩ (.int .u8 v)).cell? ⟨g, a + o, none⟩ = some vv := ⟨_, sv⟩
        have z0 : (k : Int) < (n : Int) := by omega
        have z1 : (a : Int) + (o : Int) < (n : Int) := by omega
        have z2 : (0 : Int) ≤ (a : Int) + (o : Int) := by omega
        have nxt : Hid (∀ W', W' = ((w2.setCell ⟨g, k, none⟩ (.int .u8 v)).setCell ⟨g, a + o, none⟩ (.int .u8 u)).drew → Sh w W' g n d a b s (sw e k (a + o))) := by
          rintro W' rfl
          rw [hu, hv]
          exact h2.out.swap (by omega) (by have := HL.out; omega) (by omega) (by have := HL.out; omega)
        clear hu hv sv
        go_wp2_with (fail)
        go_region
        all_goals
          go_wp2_with (fail)
          go_roundw
          case rel => exact ⟨k + 1, by go_num, by omega, by omega, _, nxt.out _ rfl⟩
          case measure => first | (simp [intOf]; done) | (simp [intOf]; omega)
      · have dz : decide ((l : Int) ≤ (z : Int)) = true := by simp; omega
        obtain ⟨o, ho⟩ : ∃ o, z = l + o := ⟨z - l, by omega⟩
        have EO : Hid ((z : Int) - (l : Int) = (o : Int)) := show _ = _ by omega
        have ol : o < l := by omega
        clear ho
        go_upto_region 10 with (fail)
        rw [EO.out]
        clear dz EZ
        have cj := h2.out.rw.cell (j := a + o) (by omega)
        have ci := h2.out.rw.cell (j := k) (by omega)
        have ff := h2.out.rw.free
        obtain ⟨u, hu⟩ : ∃ u, u = e k := ⟨_, rfl⟩
        obtain ⟨v, hv⟩ : ∃ v, v = e (a + o) := ⟨_, rfl⟩
        rw [← hu] at ci
        rw [← hv] at cj
        have sv := (h2.out.rw.set k v).cell (j := a + o) (by omega)
        obtain ⟨vv, hvv⟩ : ∃ vv, (w2.setCell ⟨g, k, none⟩ (.int .u8 v)).cell? ⟨g, a + o, none⟩ = some vv := ⟨_, sv⟩
        have z0 : (k : Int) < (n : Int) := by omega
        have z1 : (a : Int) + (o : Int) < (n : Int) := by omega
        have z2 : (0 : Int) ≤ (a : Int) + (o : Int) := by omega
        have nxt : Hid (∀ W', W' = ((w2.setCell ⟨g, k, none⟩ (.int .u8 v)).setCell ⟨g, a + o, none⟩ (.int .u8 u)).drew → Sh w W' g n d a b s (sw e k (a + o))) := by
          rintro W' rfl
          rw [hu, hv]
          exact h2.out.swap (by omega) (by have := HL.out; omega) (by omega) (by have := HL.out; omega)
        clear hu hv sv
        go_wp2_with (fail)
        go_region
        all_goals
          go_wp2_with (fail)
          go_roundw
          case rel => exact ⟨k + 1, by go_num, by omega, by omega, _, nxt.out _ rfl⟩
          case measure => first | (simp [intOf]; done) | (simp [intOf]; omega)
    · have dg : decide ((k : Int) ≤ (a : Int) + (l : Int) / 4 * 2 + 1) = false := by rw [EQ.out]; simp; omega
      have fin : Hid (∃ d', Rw w wr g n d' ∧ Pm a b d d') := ⟨e, hr.out.rw, hr.out.pm⟩
      go_wp2_with (fail)
      first | go_end0 | refine bodyPost_ret (results_none rfl _ _ _) rfl ?_
      exact ⟨rfl, fin⟩
end Go.Proofs.Ytabeljpnmmfpgaa

namespace Go.Proofs.Ytabeljpnmmfpgaa
open Go.RowKit Go.MapKept
set_option linter.unusedVariables false
set_option linter.unusedSimpArgs false

set_option maxRecDepth 100000 in
set_option maxHeartbeats 4000000 in
theorem pdq_small (w : World) (g n c a b : Nat) (L : Nat) (d : Nat → Int) (h : Rw w w g n d) (hab : a ≤ b) (h12 : b ≤ a + 12) (hb : b ≤ n) (hn : n ≤ 1000000000) :
    Calls Try.prog 60 #[.slice (some ⟨g, 0, none⟩) n c, .int .i64 a, .int .i64 b, .int .i64 L] w fun e w' => e = .returned (.tuple #[]) ∧ Hid (∃ d', Rw w w' g n d' ∧ Pm a b d d' ∧ Asc a b d') := by
  have ins := Lib.hid (insertion_any w g n c a b d h hab hb hn)
  have dl : decide ((b : Int) - (a : Int) ≤ 12) = true := by simp; omega
  clear h
  go_enter Try.func60, Try.ntmps60
  go_wp2_with (fail)
  go_loopw [1, 2, 3, 8, 9] (fun p1 p2 p3 p8 p9 wr => p1 = .int .i64 (a : Int) ∧ p2 = .int .i64 (b : Int) ∧ p3 = .int .i64 (L : Int) ∧ p8 = .bool true ∧ p9 = .bool true ∧ wr = w) (fun _ _ _ _ _ _ => 0)
  case atStart => exact ⟨rfl, rfl, rfl, rfl, rfl, rfl⟩
  case round =>
    obtain ⟨rfl, rfl, rfl, rfl, rfl, rfl⟩ := hrel
    go_wp2_with (fail)
    refine ins.out.mono ?_
    rintro e w1 ⟨rfl, hd⟩
    have HD := Lib.hid hd
    clear hd
    go_wp2_with (fail)
    first | go_end0 | refine bodyPost_ret (results_none rfl _ _ _) rfl ?_
    exact ⟨rfl, HD⟩

/-- What a round of pdqsort has: [a, b) is still to be sorted, all else stands in its place. -/
structure Qs (w W : World) (g n B : Nat) (d : Nat → Int) (a b L : Nat) (e : Nat → Int) : Prop where
  rw : Rw w W g n e
  pm : Pm 0 B d e
  inj : Inj n e
  ab : a ≤ b
  bB : b ≤ B
  len : b ≤ a + 16
  lim : b ≤ a + 11 + L
  out : ∀ x y, x ≤ y → y < B → (x < a ∨ b ≤ y) → e x ≤ e y
theorem Qs.start {w : World} {g n B L : Nat} {d : Nat → Int} (h : Rw w w g n d) (hi : Inj n d) (hB : B ≤ 16) (hL : B ≤ 11 + L) : Qs w w g n B d 0 B L d :=
  ⟨h, Pm.refl _ _ _, hi, by omega, Nat.le_refl _, by omega, by omega, fun x y h1 h2 h3 => by omega⟩
theorem Qs.shuffle {w W W' : World} {g n B : Nat} {d : Nat → Int} {a b L L' : Nat} {e e' : Nat → Int} (h : Qs w W g n B d a b L e) (hr : Rw w W' g n e') (hp : Pm a b e e') (hn : B ≤ n) (hl : b ≤ a + 12 + L') : Pm 0 B d e' ∧ Inj n e' ∧ (∀ x y, x ≤ y → y < B → (x < a ∨ b ≤ y) → e' x ≤ e' y) := by
  have h1 := h.ab; have h2 := h.bB
  refine ⟨h.pm.trans (hp.mono (Nat.zero_le _) h2), hp.inj (by omega) h.inj, fun x y hxy hy ho => ?_⟩
  by_cases hx : a ≤ x ∧ x < b
  · obtain ⟨m, m1, m2, m3⟩ := hp.mem x hx.1 hx.2
    rw [m3, hp.out y (by omega)]
    exact h.out m y (by omega) hy (.inr (by omega))
  · rw [hp.out x hx]
    by_cases hy' : a ≤ y ∧ y < b
    · obtain ⟨m, m1, m2, m3⟩ := hp.mem y hy'.1 hy'.2
      rw [m3]
      exact h.out x m (by omega) (by omega) (.inl (by omega))
    · rw [hp.out y hy']; exact h.out x y hxy hy ho
theorem Qs.done {w W : World} {g n B : Nat} {d : Nat → Int} {a b L : Nat} {e e' : Nat → Int} (h : Qs w W g n B d a b L e) {W' : World} (hr : Rw w W' g n e') (hp : Pm a b e e') (hs : Asc a b e') (hn : B ≤ n) : Rw w W' g n e' ∧ Pm 0 B d e' ∧ Asc 0 B e' := by
  obtain ⟨q1, q2, q3⟩ := h.shuffle (L' := L + 4) hr hp hn (by have := h.lim; omega)
  refine ⟨hr, q1, fun x y _ hxy hy => ?_⟩
  by_cases ho : x < a ∨ b ≤ y
  · exact q3 x y hxy hy ho
  · exact hs x y (by omega) hxy (by omega)
/-- The left part is sorted, the right one is left. -/
theorem Qs.right {w W W2 W3 : World} {g n B : Nat} {d : Nat → Int} {a b L L' m : Nat} {e e2 e3 : Nat → Int} (h : Qs w W g n B d a b L e) (hp : Pm a b e e2) (hn : B ≤ n) (am : a ≤ m) (mb : m < b) (hlo : ∀ k, a ≤ k → k < m → e2 k < e2 m) (hhi : ∀ k, m < k → k < b → e2 m ≤ e2 k)
    (hr : Rw w W3 g n e3) (hp3 : Pm a m e2 e3) (hs : Asc a m e3) (hl : b ≤ a + 12 + L') : Qs w W3 g n B d (m + 1) b L' e3 := by
  have h1 := h.len; have h2 := h.bB
  have hp' : Pm a b e e3 := hp.trans (hp3.mono (Nat.le_refl _) (by omega))
  obtain ⟨q1, q2, q3⟩ := h.shuffle (L' := L') hr hp' hn hl
  have hm : e3 m = e2 m := hp3.out m (by omega)
  have hlo3 : ∀ k, a ≤ k → k < m → e3 k < e3 m := by rw [hm]; exact hp3.all (Q := fun v => v < e2 m) hlo
  have hhi3 : ∀ k, m < k → k < b → e3 m ≤ e3 k := fun k k1 k2 => by rw [hm, hp3.out k (by omega)]; exact hhi k k1 k2
  refine ⟨hr, q1, q2, by omega, h2, by omega, by omega, fun x y hxy hy ho => ?_⟩
  by_cases ho' : x < a ∨ b ≤ y
  · exact q3 x y hxy hy ho'
  · have x1 : a ≤ x := by omega
    have y1 : y < b := by omega
    have x2 : x ≤ m := by omega
    by_cases y2 : y < m
    · exact hs x y x1 hxy y2
    · have e1 : e3 x ≤ e3 m := by
        by_cases x3 : x = m
        · rw [x3]; exact Int.le_refl _
        · exact Int.le_of_lt (hlo3 x x1 (by omega))
      by_cases y3 : y = m
      · rw [y3]; exact e1
      · exact Int.le_trans e1 (hhi3 y (by omega) y1)
/-- The right part is sorted, the left one is left. -/
theorem Qs.left {w W W2 W3 : World} {g n B : Nat} {d : Nat → Int} {a b L L' m : Nat} {e e2 e3 : Nat → Int} (h : Qs w W g n B d a b L e) (hp : Pm a b e e2) (hn : B ≤ n) (am : a ≤ m) (mb : m < b) (hlo : ∀ k, a ≤ k → k < m → e2 k < e2 m) (hhi : ∀ k, m < k → k < b → e2 m ≤ e2 k)
    (hr : Rw w W3 g n e3) (hp3 : Pm (m + 1) b e2 e3) (hs : Asc (m + 1) b e3) (hl : b ≤ a + 12 + L') : Qs w W3 g n B d a m L' e3 := by
  have h1 := h.len; have h2 := h.bB
  have hp' : Pm a b e e3 := hp.trans (hp3.mono (by omega) (Nat.le_refl _))
  obtain ⟨q1, q2, q3⟩ := h.shuffle (L' := L') hr hp' hn hl
  have hm : e3 m = e2 m := hp3.out m (by omega)
  have hlo3 : ∀ k, a ≤ k → k < m → e3 k < e3 m := fun k k1 k2 => by rw [hm, hp3.out k (by omega)]; exact hlo k k1 k2
  have hhi3 : ∀ k, m + 1 ≤ k → k < b → e3 m ≤ e3 k := by rw [hm]; exact hp3.all (Q := fun v => e2 m ≤ v) (fun k k1 k2 => hhi k (by omega) k2)
  refine ⟨hr, q1, q2, am, by omega, by omega, by omega, fun x y hxy hy ho => ?_⟩
  by_cases ho' : x < a ∨ b ≤ y
  · exact q3 x y hxy hy ho'
  · have x1 : a ≤ x := by omega
    have y1 : y < b := by omega
    have y2 : m ≤ y := by omega
    by_cases x2 : m + 1 ≤ x
    · exact hs x y x2 hxy y1
    · have e1 : e3 x ≤ e3 m := by
        by_cases x3 : x = m
        · rw [x3]; exact Int.le_refl _
        · exact Int.le_of_lt (hlo3 x x1 (by omega))
      by_cases y3 : y = m
      · rw [y3]; exact e1
      · exact Int.le_trans e1 (hhi3 y (by omega) y1)
end Go.Proofs.Ytabeljpnmmfpgaa

namespace Go.Proofs.Ytabeljpnmmfpgaa
open Go.RowKit Go.MapKept
set_option linter.unusedVariables false
set_option linter.unusedSimpArgs false

theorem Rw.self {w W : World} {g n : Nat} {d : Nat → Int} (h : Rw w W g n d) : Rw W W g n d := ⟨Upd.refl _ _, h.row⟩

set_option maxRecDepth 100000 in
set_option maxHeartbeats 16000000 in
theorem pdq_any (w : World) (g n c B L0 : Nat) (d : Nat → Int) (h : Rw w w g n d) (hi : Inj n d) (h16 : B ≤ 16) (hL : B ≤ 11 + L0) (hL2 : L0 ≤ 100) (hb : B ≤ n) (hn : n ≤ 1000000000) :
    Calls Try.prog 60 #[.slice (some ⟨g, 0, none⟩) n c, .int .i64 0, .int .i64 B, .int .i64 L0] w fun e w' => e = .returned (.tuple #[]) ∧ Hid (∃ d', Rw w w' g n d' ∧ Pm 0 B d d' ∧ Asc 0 B d') := by
  have st := Lib.hid (Qs.start h hi h16 hL)
  clear h hi
  go_enter Try.func60, Try.ntmps60
  go_wp2_with (fail)
  go_loopw [1, 2, 3, 8, 9] (fun p1 p2 p3 p8 p9 wr => ∃ (a b L : Nat) (wb wp : Bool) (e : Nat → Int), p1 = .int .i64 (a : Int) ∧ p2 = .int .i64 (b : Int) ∧ p3 = .int .i64 (L : Int) ∧ p8 = .bool wb ∧ p9 = .bool wp ∧ L ≤ 100 ∧ Hid (Qs w wr g n B d a b L e)) (fun p1 p2 _ _ _ _ => (intOf p2 - intOf p1).toNat)
  case atStart => exact ⟨0, B, L0, true, true, d, rfl, rfl, rfl, rfl, rfl, hL2, st⟩
  case round =>
    obtain ⟨a, b, L, wb, wp, e, rfl, rfl, rfl, rfl, rfl, hLL, Q⟩ := hrel
    have q1 := Q.out.ab
    have q2 := Q.out.bB
    have q3 := Q.out.len
    have q4 := Q.out.lim
    clear st
    by_cases hs : b ≤ a + 12
    · have dl : decide ((b : Int) - (a : Int) ≤ 12) = true := by simp; omega
      have ins := Lib.hid (insertion_any wr g n c a b e Q.out.rw.self q1 (by omega) hn)
      go_wp2_with (fail)
      refine ins.out.mono ?_
      rintro e1 w1 ⟨rfl, d1, hr, hp, has⟩
      have fin : Hid (∃ d', Rw w w1 g n d' ∧ Pm 0 B d d' ∧ Asc 0 B d') := ⟨d1, Q.out.done (Q.out.rw.trans hr) hp has hb⟩
      clear hr hp has
      go_wp2_with (fail)
      first | go_end0 | refine bodyPost_ret (results_none rfl _ _ _) rfl ?_
      exact ⟨rfl, fin⟩
    · have dl : decide ((b : Int) - (a : Int) ≤ 12) = false := by simp; omega
      have dz : ((L : Int) == 0) = false := by simp; omega
      go_upto_if 35 with (fail)
      go_cut [3] (fun p wx => ∃ (L2 : Nat) (e1 : Nat → Int), p = .int .i64 (L2 : Int) ∧ L2 ≤ 100 ∧ L ≤ L2 + 1 ∧ Hid (Rw wr wx g n e1 ∧ Pm a b e e1))
      case first =>
        cases wb with
        | true =>
          have f : Hid (Rw wr wr g n e ∧ Pm a b e e) := ⟨Q.out.rw.self, Pm.refl _ _ _⟩
          go_wp2_with (fail)
          go_meet
          exact ⟨L, e, rfl, hLL, by omega, f⟩
        | false =>
          have bp := Lib.hid (breakPatterns_any wr g n c a b e Q.out.rw.self (by omega) (by omega) (by omega) hn)
          have EL : Hid ((L : Int) - 1 = ((L - 1 : Nat) : Int)) := show _ = _ by omega
          go_wp2_with (fail)
          refine bp.out.mono ?_
          rintro e0 w1 ⟨rfl, hd⟩
          have HD := Lib.hid hd.out
          clear hd
          go_wp2_with (fail)
          go_meet
          obtain ⟨d1, h1, h2⟩ := HD.out
          exact ⟨L - 1, d1, by rw [EL.out], by omega, by omega, h1, h2⟩
      case rest =>
        obtain ⟨L2, e1, rfl, hL3, hL4, F1⟩ := hcut
        obtain ⟨W1, hW1⟩ : ∃ W1, W1 = wc := ⟨_, rfl⟩
        rw [← hW1] at F1 ⊢
        clear hW1
        have cp := Lib.hid (choosePivot_any wr W1 g n c a b e1 F1.out.1 F1.out.1.lt (by omega) (by omega) (by omega) hn)
        go_wp2_with (fail)
        refine cp.out.mono ?_
        rintro e0 w2 ⟨p, k, rfl, p1, p2, k2, R2⟩
        clear cp
        have dk : ((k : Int) == 2) = false := by simp; omega
        go_upto_region 15 with (fail)
        go_cut [68] (fun p wx => ∃ cc : Bool, p = .bool cc ∧ wx = w2)
        case first =>
          cases wb <;> cases wp
          all_goals
            by_cases hk : k = 1
            · subst hk
              go_wp2_with (fail)
              go_meet
              exact ⟨_, rfl, rfl⟩
            · have dk1 : ((k : Int) == 1) = false := by simp; omega
              go_wp2_with (fail)
              go_meet
              exact ⟨_, rfl, rfl⟩
        case rest =>
          obtain ⟨cc, rfl, rfl⟩ := hcut
          obtain ⟨W2, hW2⟩ : ∃ W2, W2 = wc := ⟨_, rfl⟩
          rw [← hW2] at R2 ⊢
          clear hW2
          go_upto_if 68 with (fail)
          go_cut [] (fun wx => Hid (Rw wr wx g n e1))
          case first =>
            cases cc with
            | false =>
              go_wp2_with (fail)
              go_meet
              exact R2
            | true =>
              have pi := Lib.hid (partialIns_any W2 g n c a b e1 R2.out.self (by omega) (by omega) (by omega) hn)
              go_wp2_with (fail)
              refine pi.out.mono ?_
              rintro e0 w3 ⟨r, rfl, hr1, hr2⟩
              have R3 : Hid (Rw wr w3 g n e1) := R2.out.trans hr2.out
              clear pi
              cases r with
              | true =>
                have fin : Hid (∃ d', Rw w w3 g n d' ∧ Pm 0 B d d' ∧ Asc 0 B d') := ⟨e1, Q.out.done (Q.out.rw.trans R3.out) F1.out.2 (hr1.out rfl) hb⟩
                go_wp2_with (fail)
                first | go_end0 | refine bodyPost_ret (results_none rfl _ _ _) rfl ?_
                exact ⟨rfl, fin⟩
              | false =>
                go_wp2_with (fail)
                go_meet
                exact R3
          case rest =>
            obtain ⟨W3, hW3⟩ : ∃ W3, W3 = wc := ⟨_, rfl⟩
            have R3 : Hid (Rw wr W3 g n e1) := by rw [hW3]; exact hcut
            rw [← hW3]
            clear hW3 hcut R2
            go_upto_region 17 with (fail)
            go_cut [87] (fun p wx => p = .bool false ∧ Hid (Rw wr wx g n e1))
            case first =>
              by_cases ha : a = 0
              · subst ha
                have out : Hid (∀ nq, Rw wr (W3.drewN nq) g n e1) := fun nq => R3.out.quiet ⟨nq, rfl⟩
                go_wp2_with (fail)
                go_big_quiet (first | (go_at_call 68; refine Calls.quiet_of_same (less_any _ _ _)))
                go_wp2_with (fail)
                go_meet
                exact ⟨rfl, out.out _⟩
              · obtain ⟨m, rfl⟩ : ∃ m, a = m + 1 := ⟨a - 1, by omega⟩
                have cm := R3.out.cell (j := m) (by omega)
                have cp := R3.out.cell (j := p) (by omega)
                obtain ⟨s1, s2, s3⟩ := Q.out.shuffle (L' := L2) (Q.out.rw.trans R3.out) F1.out.2 hb (by omega)
                have hle := s3 m p (by omega) (by omega) (.inl (by omega))
                have hne : e1 m ≠ e1 p := fun h => by have := s2 m p (by omega) (by omega) h; omega
                obtain ⟨x, hx⟩ : ∃ x, x = e1 m := ⟨_, rfl⟩
                obtain ⟨y, hy⟩ : ∃ y, y = e1 p := ⟨_, rfl⟩
                rw [← hx] at cm hle hne
                rw [← hy] at cp hle hne
                have d1 : decide (x < y) = true := decide_eq_true (by omega)
                have dg : decide ((0 : Int) < (m : Int) + 1) = true := decide_eq_true (by omega)
                have z0 : (m : Int) < (n : Int) := by omega
                have z1 : (p : Int) < (n : Int) := by omega
                have wm := wrapN m (by omega)
                have out : Hid (∀ nq, Rw wr (W3.drewN nq) g n e1) := fun nq => R3.out.quiet ⟨nq, rfl⟩
                clear s1 s2 s3 hx hy hle hne
                go_wp2_with (fail)
                go_big_quiet (first | (go_at_call 68; refine Calls.quiet_of_same (less_any _ _ _)))
                go_wp2_with (fail)
                go_meet
                exact ⟨rfl, out.out _⟩
            case rest =>
              obtain ⟨rfl, R4⟩ := hcut
              obtain ⟨W4, hW4⟩ : ∃ W4, W4 = wc := ⟨_, rfl⟩
              rw [← hW4] at R4 ⊢
              clear hW4 R3
              have pt := Lib.hid (partition_any W4 g n c a b p e1 R4.out.self p1 p2 (by omega) hn)
              go_wp2_with (fail)
              refine pt.out.mono ?_
              rintro e0 w5 ⟨m, r, rfl, hP⟩
              obtain ⟨e2, PE⟩ := hP.out
              have am := PE.am
              have mb := PE.mb
              have PH := Lib.hid PE
              clear hP PE pt
              have hp2 : Hid (Pm a b e e2) := F1.out.2.trans PH.out.pm
              have R5 : Hid (Rw wr w5 g n e2) := R4.out.trans PH.out.rw
              by_cases hlr : m - a < b - m
              · have dlr : decide ((m : Int) - (a : Int) < (b : Int) - (m : Int)) = true := by simp; omega
                have rc := Lib.hid (pdq_small w5 g n c a m L2 e2 R5.out.self am (by omega) (by omega) hn)
                go_wp2_with (fail)
                refine rc.out.mono ?_
                rintro e0 w6 ⟨rfl, hd⟩
                have fin : Hid (∃ e3, Qs w w6 g n B d (m + 1) b L2 e3) := by
                  obtain ⟨e3, h1, h2, h3⟩ := hd.out
                  exact ⟨e3, Q.out.right (W2 := w5) hp2.out hb am mb PH.out.lo PH.out.hi (Q.out.rw.trans (R5.out.trans h1)) h2 h3 (by omega)⟩
                clear hd rc
                go_wp2_with (fail)
                go_roundw
                case rel => obtain ⟨e3, hq⟩ := fin.out; exact ⟨m + 1, b, L2, _, r, e3, by go_num, rfl, rfl, rfl, rfl, hL3, hq⟩
                case measure => first | (simp [intOf]; done) | (simp [intOf]; omega)
              · have dlr : decide ((m : Int) - (a : Int) < (b : Int) - (m : Int)) = false := by simp; omega
                have EM : Hid ((m : Int) + 1 = ((m + 1 : Nat) : Int)) := show _ = _ by omega
                have rc := Lib.hid (pdq_small w5 g n c (m + 1) b L2 e2 R5.out.self (by omega) (by omega) (by omega) hn)
                rw [← EM.out] at rc
                go_wp2_with (fail)
                refine rc.out.mono ?_
                rintro e0 w6 ⟨rfl, hd⟩
                have fin : Hid (∃ e3, Qs w w6 g n B d a m L2 e3) := by
                  obtain ⟨e3, h1, h2, h3⟩ := hd.out
                  exact ⟨e3, Q.out.left (W2 := w5) hp2.out hb am mb PH.out.lo PH.out.hi (Q.out.rw.trans (R5.out.trans h1)) h2 h3 (by omega)⟩
                clear hd rc
                go_wp2_with (fail)
                go_roundw
                case rel => obtain ⟨e3, hq⟩ := fin.out; exact ⟨a, m, L2, _, r, e3, rfl, rfl, rfl, rfl, rfl, hL3, hq⟩
                case measure => first | (simp [intOf]; done) | (simp [intOf]; omega)
end Go.Proofs.Ytabeljpnmmfpgaa
