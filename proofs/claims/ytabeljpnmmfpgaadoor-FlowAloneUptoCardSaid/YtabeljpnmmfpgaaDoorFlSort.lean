/-
  Sorting a row of addresses: what a row is, what a swap does; cmp.Less; the insertion sort; pdqsort of at most 12.
-/
import Derived.Test.YtabeljpnmmfpgaaDoorBase
import Derived.Test.YtabeljpnmmfpgaaDoorProg
import Derived.Lib.Hide
import Derived.Deep.RegionHeld3
import Derived.Sort.AtCall
import Derived.Deep.QuietTactic
import Derived.Deep.DeepCutAuto
import Derived.BigRegion
import Derived.BigQuiet
import Derived.Deep.CutBlock
import Derived.Lib.BitFns
namespace Go.Proofs.YtabeljpnmmfpgaaDoor
open Go.RowKit Go.MapKept
set_option linter.unusedVariables false
set_option linter.unusedSimpArgs false

/-- w' is w with some drawing behind it. -/
def Quiet (w w' : World) : Prop := ∃ n, w' = w.drewN n
theorem Quiet.refl (w : World) : Quiet w w := ⟨0, rfl⟩

/-! ### rows as functions -/
def sw (d : Nat → Int) (i j : Nat) : Nat → Int := fun k => if k = i then d j else if k = j then d i else d k
/-- d' comes of d by swaps within [a, b). -/
def Pm (a b : Nat) (d d' : Nat → Int) : Prop := ∀ R : (Nat → Int) → Prop, R d → (∀ e i j, R e → a ≤ i → i < b → a ≤ j → j < b → R (sw e i j)) → R d'
theorem Pm.refl (a b : Nat) (d : Nat → Int) : Pm a b d d := fun R h _ => h
theorem Pm.swap {a b : Nat} {d d' : Nat → Int} (h : Pm a b d d') {i j : Nat} (hi : a ≤ i) (hi' : i < b) (hj : a ≤ j) (hj' : j < b) : Pm a b d (sw d' i j) := fun R h0 hs => hs _ _ _ (h R h0 hs) hi hi' hj hj'
theorem Pm.trans {a b : Nat} {d d' d'' : Nat → Int} (h : Pm a b d d') (k : Pm a b d' d'') : Pm a b d d'' := fun R h0 hs => k R (h R h0 hs) hs
theorem Pm.mono {a b a' b' : Nat} {d d' : Nat → Int} (h : Pm a b d d') (ha : a' ≤ a) (hb : b ≤ b') : Pm a' b' d d' := fun R h0 hs => h R h0 (fun e i j he h1 h2 h3 h4 => hs e i j he (by omega) (by omega) (by omega) (by omega))
theorem Pm.out {a b : Nat} {d d' : Nat → Int} (h : Pm a b d d') : ∀ k, ¬ (a ≤ k ∧ k < b) → d' k = d k :=
  h (fun e => ∀ k, ¬ (a ≤ k ∧ k < b) → e k = d k) (fun _ _ => rfl) (fun e i j he h1 h2 h3 h4 k hk => by
    unfold sw
    rw [if_neg (by rintro rfl; exact hk ⟨h1, h2⟩), if_neg (by rintro rfl; exact hk ⟨h3, h4⟩)]
    exact he k hk)
theorem Pm.mem {a b : Nat} {d d' : Nat → Int} (h : Pm a b d d') : ∀ k, a ≤ k → k < b → ∃ m, a ≤ m ∧ m < b ∧ d' k = d m :=
  h (fun e => ∀ k, a ≤ k → k < b → ∃ m, a ≤ m ∧ m < b ∧ e k = d m) (fun k h1 h2 => ⟨k, h1, h2, rfl⟩) (fun e i j he h1 h2 h3 h4 k hk hk' => by
    unfold sw
    by_cases e1 : k = i
    · rw [if_pos e1]; exact he j h3 h4
    · rw [if_neg e1]
      by_cases e2 : k = j
      · rw [if_pos e2]; exact he i h1 h2
      · rw [if_neg e2]; exact he k hk hk')
theorem Pm.mem' {a b : Nat} {d d' : Nat → Int} (h : Pm a b d d') : ∀ k, a ≤ k → k < b → ∃ m, a ≤ m ∧ m < b ∧ d k = d' m :=
  h (fun e => ∀ k, a ≤ k → k < b → ∃ m, a ≤ m ∧ m < b ∧ d k = e m) (fun k h1 h2 => ⟨k, h1, h2, rfl⟩) (fun e i j he h1 h2 h3 h4 k hk hk' => by
    obtain ⟨m, m1, m2, m3⟩ := he k hk hk'
    by_cases e1 : m = i
    · refine ⟨j, h3, h4, ?_⟩
      unfold sw
      by_cases e2 : j = i
      · rw [if_pos e2, m3, e1, e2]
      · rw [if_neg e2, if_pos rfl, m3, e1]
    · by_cases e2 : m = j
      · refine ⟨i, h1, h2, ?_⟩
        unfold sw
        rw [if_pos rfl, m3, e2]
      · refine ⟨m, m1, m2, ?_⟩
        unfold sw
        rw [if_neg e1, if_neg e2, m3])
theorem Pm.all {a b : Nat} {d d' : Nat → Int} (h : Pm a b d d') {Q : Int → Prop} (hq : ∀ k, a ≤ k → k < b → Q (d k)) : ∀ k, a ≤ k → k < b → Q (d' k) := fun k h1 h2 => by
  obtain ⟨m, m1, m2, m3⟩ := h.mem k h1 h2
  rw [m3]; exact hq m m1 m2
def Inj (n : Nat) (d : Nat → Int) : Prop := ∀ i j, i < n → j < n → d i = d j → i = j
theorem Inj.sw {n : Nat} {d : Nat → Int} (h : Inj n d) {i j : Nat} (hi : i < n) (hj : j < n) : Inj n (sw d i j) := by
  intro x y hx hy e
  unfold Go.Proofs.YtabeljpnmmfpgaaDoor.sw at e
  by_cases x1 : x = i
  · by_cases y1 : y = i
    · rw [x1, y1]
    · rw [if_pos x1, if_neg y1] at e
      by_cases y2 : y = j
      · rw [if_pos y2] at e
        have := h j i hj hi e
        omega
      · rw [if_neg y2] at e
        have := h j y hj hy e
        omega
  · rw [if_neg x1] at e
    by_cases x2 : x = j
    · rw [if_pos x2] at e
      by_cases y1 : y = i
      · rw [if_pos y1] at e
        have := h i j hi hj e
        omega
      · rw [if_neg y1] at e
        by_cases y2 : y = j
        · rw [x2, y2]
        · rw [if_neg y2] at e
          have := h i y hi hy e
          omega
    · rw [if_neg x2] at e
      by_cases y1 : y = i
      · rw [if_pos y1] at e
        have := h x j hx hj e
        omega
      · rw [if_neg y1] at e
        by_cases y2 : y = j
        · rw [if_pos y2] at e
          have := h x i hx hi e
          omega
        · rw [if_neg y2] at e
          exact h x y hx hy e
theorem Pm.inj {a b n : Nat} {d d' : Nat → Int} (h : Pm a b d d') (hb : b ≤ n) (hi : Inj n d) : Inj n d' := h (Inj n) hi (fun e i j he h1 h2 h3 h4 => he.sw (by omega) (by omega))

/-- Ascending on [a, b). -/
def Asc (a b : Nat) (d : Nat → Int) : Prop := ∀ i j, a ≤ i → i ≤ j → j < b → d i ≤ d j

theorem asc_one (a : Nat) (d : Nat → Int) : Asc a (a + 1) d := fun i j h1 h2 h3 => by
  have : i = j := by omega
  rw [this]; exact Int.le_refl _

/-! ### rows in the heap -/
/-- W is w but for the row in block g, which holds d. -/
structure Rw (w W : World) (g n : Nat) (d : Nat → Int) : Prop where
  upd : Upd w W (fun i => i = g)
  sz : ∀ cs0 cs, w.heap[g]? = some (.cells cs0 23 (0, 0)) → W.heap[g]? = some (.cells cs 23 (0, 0)) → cs.size = cs0.size
  row : ∃ cs, W.heap[g]? = some (.cells cs 23 (0, 0)) ∧ ∀ j, j < n → cs[j]? = some (.int .u16 (d j))
theorem Rw.cell {w W : World} {g n : Nat} {d : Nat → Int} (h : Rw w W g n d) {j : Nat} (hj : j < n) : W.cell? ⟨g, j, none⟩ = some (.int .u16 (d j)) := by
  obtain ⟨cs, h1, h2⟩ := h.row
  rw [cell_of h1]; exact h2 j hj
theorem Rw.free {w W : World} {g n : Nat} {d : Nat → Int} (h : Rw w W g n d) (j : Nat) : W.frozen? ⟨g, j, none⟩ = false := by
  obtain ⟨cs, h1, h2⟩ := h.row
  exact free_of h1 j
theorem Rw.lt {w W : World} {g n : Nat} {d : Nat → Int} (h : Rw w W g n d) : g < W.heap.size := by
  obtain ⟨cs, h1, h2⟩ := h.row
  exact heap_lt h1
theorem Rw.next {w W W' : World} {g n : Nat} {d : Nat → Int} (h : Rw w W g n d) (hb : Below W.heap.size W W') : Rw w W' g n d := by
  obtain ⟨cs, h1, h2⟩ := h.row
  exact ⟨h.upd.trans (Upd.of_below hb (fun _ => False)) (fun _ _ f => f.elim), (fun c0 c1 e0 e1 => h.sz c0 c1 e0 ((hb.block _ (heap_lt h1)).symm.trans e1)), cs, (hb.block _ (heap_lt h1)).trans h1, h2⟩
theorem Rw.quiet {w W W' : World} {g n : Nat} {d : Nat → Int} (h : Rw w W g n d) (q : Quiet W W') : Rw w W' g n d := by
  obtain ⟨cs, h1, h2⟩ := h.row
  obtain ⟨m, rfl⟩ := q
  exact ⟨h.upd.drewN m, h.sz, cs, h1, h2⟩
theorem Rw.trans {w W W' : World} {g n : Nat} {d d' : Nat → Int} (h : Rw w W g n d) (k : Rw W W' g n d') : Rw w W' g n d' :=
  ⟨h.upd.trans k.upd (fun _ _ e => e), (fun c0 c1 e0 e1 => by obtain ⟨c2, e2, _⟩ := h.row; exact (k.sz c2 c1 e2 e1).trans (h.sz c0 c2 e0 e2)), k.row⟩
theorem Rw.set {w W : World} {g n : Nat} {d : Nat → Int} (h : Rw w W g n d) (i : Nat) (v : Int) : Rw w (W.setCell ⟨g, i, none⟩ (.int .u16 v)) g n (fun k => if k = i then v else d k) := by
  obtain ⟨cs, h1, h2⟩ := h.row
  refine ⟨h.upd.setCell (fun _ => rfl) _, (fun c0 c1 e0 e1 => by rw [heap_set_cell h1 i _] at e1; cases e1; rw [Array.size_setIfInBounds]; exact h.sz c0 cs e0 h1), _, heap_set_cell h1 i _, fun j hj => ?_⟩
  rw [Array.getElem?_setIfInBounds]
  by_cases e : i = j
  · subst e
    have h3 := (Array.getElem?_eq_some_iff.1 (h2 i hj)).1
    simp [h3]
  · rw [if_neg e, if_neg (fun e' => e e'.symm)]; exact h2 j hj
theorem Rw.congr {w W : World} {g n : Nat} {d d' : Nat → Int} (h : Rw w W g n d) (e : ∀ k, k < n → d' k = d k) : Rw w W g n d' := by
  obtain ⟨cs, h1, h2⟩ := h.row
  exact ⟨h.upd, h.sz, cs, h1, fun j hj => by rw [e j hj]; exact h2 j hj⟩
/-- The two stores of a swap, in either order. -/
theorem Rw.swap {w W : World} {g n : Nat} {d : Nat → Int} (h : Rw w W g n d) (i j : Nat) : Rw w ((W.setCell ⟨g, i, none⟩ (.int .u16 (d j))).setCell ⟨g, j, none⟩ (.int .u16 (d i))) g n (sw d i j) := by
  refine ((h.set i (d j)).set j (d i)).congr (fun k hk => ?_)
  unfold sw
  by_cases e1 : k = i
  · by_cases e2 : k = j
    · rw [if_pos e1, if_pos e2, ← e1, ← e2]
    · rw [if_pos e1, if_neg e2, if_pos e1]
  · by_cases e2 : k = j
    · rw [if_neg e1, if_pos e2, if_pos e2]
    · rw [if_neg e1, if_neg e2, if_neg e2, if_neg e1]

theorem wrapN (m : Nat) (h : m ≤ 4000000000) : IntKind.i64.wrap (m : Int) = m := by simp [IntKind.wrap, IntKind.bits, IntKind.signed]; omega

/-! ### cmp.Less -/
theorem isNaN_any (w : World) (x : Int) : Calls Tryd.prog 101 #[.int .u16 x] w fun e w' => e = .returned (.bool false) ∧ w' = w := by
  have h : (x != x) = false := by simp
  go_enter Tryd.func101, Tryd.ntmps101
  go_wp2
  go_ret
  exact ⟨rfl, rfl⟩
theorem less_any (w : World) (x y : Int) : Calls Tryd.prog 94 #[.int .u16 x, .int .u16 y] w fun e w' => e = .returned (.bool (decide (x < y))) ∧ w' = w := by
  go_enter Tryd.func94, Tryd.ntmps94
  go_wp2_with (go_at_call 101; refine (isNaN_any _ _).mono ?_; rintro e w1 ⟨rfl, rfl⟩)
  go_ret
  exact ⟨rfl, rfl⟩

/-! ### the insertion sort -/
/-- While the element at j goes down: but for it all of [a, i] ascends, and it is not more than those behind it. -/
def Ins (a i j : Nat) (d : Nat → Int) : Prop := (∀ x y, a ≤ x → x ≤ y → y ≤ i → x ≠ j → y ≠ j → d x ≤ d y) ∧ ∀ y, j < y → y ≤ i → d j ≤ d y
theorem Ins.start {a i : Nat} {d : Nat → Int} (h : Asc a i d) : Ins a i i d := ⟨fun x y h1 h2 h3 h4 h5 => h x y h1 h2 (by omega), fun y h1 h2 => by omega⟩
theorem Ins.step {a i m : Nat} {d : Nat → Int} (h : Ins a i (m + 1) d) (hj : a ≤ m) (hi : m + 1 ≤ i) (hl : d (m + 1) < d m) : Ins a i m (sw d (m + 1) m) := by
  obtain ⟨h1, h2⟩ := h
  have e : ∀ k, sw d (m + 1) m k = if k = m + 1 then d m else if k = m then d (m + 1) else d k := fun k => rfl
  constructor
  · intro x y hx hxy hy hxn hyn
    rw [e, e, if_neg hxn, if_neg hyn]
    by_cases x1 : x = m + 1
    · by_cases y1 : y = m + 1
      · rw [if_pos x1, if_pos y1]; exact Int.le_refl _
      · rw [if_pos x1, if_neg y1]; exact h1 m y hj (by omega) hy (by omega) y1
    · rw [if_neg x1]
      by_cases y1 : y = m + 1
      · rw [if_pos y1]; exact h1 x m hx (by omega) (by omega) x1 (by omega)
      · rw [if_neg y1]; exact h1 x y hx hxy hy x1 y1
  · intro y hy hyi
    rw [e m, e y, if_neg (by omega), if_pos rfl]
    by_cases y1 : y = m + 1
    · rw [if_pos y1]; omega
    · rw [if_neg y1, if_neg (by omega)]; exact h2 y (by omega) hyi
theorem Ins.close {a i j : Nat} {d : Nat → Int} (h : Ins a i j d) (hj : j = a ∨ (a < j ∧ d (j - 1) ≤ d j)) (hi : j ≤ i) : Asc a (i + 1) d := by
  obtain ⟨h1, h2⟩ := h
  intro x y hx hxy hy
  by_cases x1 : x = j
  · by_cases y1 : y = j
    · rw [x1, y1]; exact Int.le_refl _
    · rw [x1]; exact h2 y (by omega) (by omega)
  · by_cases y1 : y = j
    · rcases hj with hj | ⟨hj, hle⟩
      · omega
      · rw [y1]
        exact Int.le_trans (h1 x (j - 1) hx (by omega) (by omega) x1 (by omega)) hle
    · exact h1 x y hx hxy (by omega) x1 y1

set_option maxRecDepth 100000 in
set_option maxHeartbeats 4000000 in
theorem insertion_any (w : World) (g n c a b : Nat) (d : Nat → Int) (h : Rw w w g n d) (hab : a ≤ b) (hb : b ≤ n) (hn : n ≤ 1000000000) :
    Calls Tryd.prog 88 #[.slice (some ⟨g, 0, none⟩) n c, .int .i64 a, .int .i64 b] w fun e w' => e = .returned (.tuple #[]) ∧ ∃ d', Rw w w' g n d' ∧ Pm a b d d' ∧ Asc a b d' := by
  have H := Lib.hid h
  clear h
  go_enter Tryd.func88, Tryd.ntmps88
  go_wp2_with (fail)
  go_loopw [6] (fun p wr => ∃ i : Nat, p = .int .i64 i ∧ a + 1 ≤ i ∧ (i ≤ b ∨ i = a + 1) ∧ ∃ e, Hid (Rw w wr g n e ∧ Pm a b d e ∧ Asc a i e)) (fun p _ => b - (intOf p).toNat)
  case atStart => exact ⟨a + 1, by simp, by omega, .inr rfl, d, H.out, Pm.refl _ _ _, asc_one a d⟩
  case round =>
    obtain ⟨i, rfl, hi1, hi2, e0, hro⟩ := hrel
    by_cases hlt : i < b
    · go_wp2_with (fail)
      go_loopw [7] (fun p wr => ∃ j : Nat, p = .int .i64 j ∧ a ≤ j ∧ j ≤ i ∧ ∃ e, Hid (Rw w wr g n e ∧ Pm a b d e ∧ Ins a i j e)) (fun p _ => (intOf p).toNat)
      case atStart => exact ⟨i, rfl, by omega, Nat.le_refl _, e0, hro.out.1, hro.out.2.1, Ins.start hro.out.2.2⟩
      case round =>
        obtain ⟨j, rfl, hj1, hj2, e, hrel⟩ := hrel
        by_cases haj : a < j
        · obtain ⟨m, rfl⟩ : ∃ m, j = m + 1 := ⟨j - 1, by omega⟩
          have c0 := hrel.out.1.cell (j := m + 1) (by omega)
          have c1 := hrel.out.1.cell (j := m) (by omega)
          have f0 := hrel.out.1.free
          obtain ⟨x, hx⟩ : ∃ x, x = e (m + 1) := ⟨_, rfl⟩
          obtain ⟨y, hy⟩ : ∃ y, y = e m := ⟨_, rfl⟩
          rw [← hx] at c0; rw [← hy] at c1
          have HX := Lib.hid hx; have HY := Lib.hid hy
          have dg : decide ((a : Int) < (m : Int) + 1) = true := by simp; omega
          have b0 : (0 : Int) ≤ (m : Int) + 1 := by omega
          have b1 : (m : Int) + 1 < (n : Int) := by omega
          have b2 : (m : Int) < (n : Int) := by omega
          have wm := wrapN m (by omega)
          clear hx hy
          by_cases hl : x < y
          · have d1 : decide (x < y) = true := by simpa using hl
            have nxt : Hid (∀ nq W', (W' = ((wr.drewN nq).setCell ⟨g, m + 1, none⟩ (.int .u16 y)).setCell ⟨g, m, none⟩ (.int .u16 x)) → Rw w W' g n (sw e (m + 1) m) ∧ Pm a b d (sw e (m + 1) m) ∧ Ins a i m (sw e (m + 1) m)) := by
              rintro nq W' rfl
              have q : Rw w (wr.drewN nq) g n e := hrel.out.1.quiet ⟨nq, rfl⟩
              have := q.swap (m + 1) m
              rw [HX.out, HY.out]
              exact ⟨this, hrel.out.2.1.swap (by omega) (by omega) (by omega) (by omega), hrel.out.2.2.step (by omega) hj2 (by rw [← HX.out, ← HY.out]; exact hl)⟩
            go_wp2_with (fail)
            go_big_quiet (first | (go_at_call 94; refine Calls.quiet_of_same (less_any _ _ _)))
            go_wp2_with (fail)
            go_region
            all_goals
              go_wp2_with (fail)
              go_roundw
              case rel => exact ⟨m, rfl, by omega, by omega, _, nxt.out _ _ rfl⟩
              case measure => first | (simp [intOf]; done) | (simp [intOf]; omega)
          · have d1 : decide (x < y) = false := by simpa using hl
            have out : Hid (∀ nq, Rw w (wr.drewN nq) g n e ∧ Pm a b d e ∧ Asc a (i + 1) e) := fun nq =>
              ⟨hrel.out.1.quiet ⟨nq, rfl⟩, hrel.out.2.1, hrel.out.2.2.close (.inr ⟨by omega, by rw [Nat.add_sub_cancel, ← HX.out, ← HY.out]; omega⟩) hj2⟩
            go_wp2_with (fail)
            go_big_quiet (first | (go_at_call 94; refine Calls.quiet_of_same (less_any _ _ _)))
            go_wp2_with (fail)
            go_roundw
            case rel => exact ⟨i + 1, by go_num, by omega, by omega, _, out.out _⟩
            case measure => first | (simp [intOf]; done) | (simp [intOf]; omega)
        · have out : Hid (∀ nq, Rw w (wr.drewN nq) g n e ∧ Pm a b d e ∧ Asc a (i + 1) e) := fun nq =>
            ⟨hrel.out.1.quiet ⟨nq, rfl⟩, hrel.out.2.1, hrel.out.2.2.close (.inl (by omega)) hj2⟩
          have hj0 : ¬ ((a : Int) < (j : Int)) := by omega
          go_wp2_with (fail)
          go_big_quiet (first | (go_at_call 94; refine Calls.quiet_of_same (less_any _ _ _)))
          go_wp2_with (fail)
          go_roundw
          case rel => exact ⟨i + 1, by go_num, by omega, by omega, _, out.out _⟩
          case measure => first | (simp [intOf]; done) | (simp [intOf]; omega)
    · have hke : i = b ∨ (i = a + 1 ∧ b ≤ a) ∨ (i = a + 1 ∧ b = a + 1) := by omega
      have fin : Hid (∃ d', Rw w wr g n d' ∧ Pm a b d d' ∧ Asc a b d') := ⟨e0, hro.out.1, hro.out.2.1, fun x y hx hxy hy => hro.out.2.2 x y hx hxy (by omega)⟩
      clear hke
      go_wp2_with (fail)
      first | go_end0 | refine bodyPost_ret (results_none rfl _ _ _) rfl ?_
      exact ⟨rfl, fin.out⟩
theorem Rw.self {w W : World} {g n : Nat} {d : Nat → Int} (h : Rw w W g n d) : Rw W W g n d := ⟨Upd.refl _ _, (fun c0 c1 e0 e1 => by rw [e0] at e1; cases e1; rfl), h.row⟩

set_option maxRecDepth 100000 in
set_option maxHeartbeats 4000000 in
theorem pdq_small (w : World) (g n c a b : Nat) (L : Nat) (d : Nat → Int) (h : Rw w w g n d) (hab : a ≤ b) (h12 : b ≤ a + 12) (hb : b ≤ n) (hn : n ≤ 1000000000) :
    Calls Tryd.prog 81 #[.slice (some ⟨g, 0, none⟩) n c, .int .i64 a, .int .i64 b, .int .i64 L] w fun e w' => e = .returned (.tuple #[]) ∧ Hid (∃ d', Rw w w' g n d' ∧ Pm a b d d' ∧ Asc a b d') := by
  have ins := Lib.hid (insertion_any w g n c a b d h hab hb hn)
  have dl : decide ((b : Int) - (a : Int) ≤ 12) = true := by simp; omega
  clear h
  go_enter Tryd.func81, Tryd.ntmps81
  go_wp2_with (fail)
  go_loopw [1, 2, 3, 8, 9] (fun p1 p2 p3 p8 p9 wr => p1 = .int .i64 (a : Int) ∧ p2 = .int .i64 (b : Int) ∧ p3 = .int .i64 (L : Int) ∧ p8 = .bool true ∧ p9 = .bool true ∧ wr = w) (fun _ _ _ _ _ _ => 0)
  case atStart => exact ⟨rfl, rfl, rfl, rfl, rfl, rfl⟩
  case round =>
    obtain ⟨rfl, rfl, rfl, rfl, rfl, rfl⟩ := hrel
    go_wp2_with (fail)
    refine ins.out.mono ?_
    rintro e w1 ⟨rfl, hd⟩
    have HD := Lib.hid hd
    clear hd
    go_wp2_with (fail)
    first | go_end0 | refine bodyPost_ret (results_none rfl _ _ _) rfl ?_
    exact ⟨rfl, HD⟩

end Go.Proofs.YtabeljpnmmfpgaaDoor
