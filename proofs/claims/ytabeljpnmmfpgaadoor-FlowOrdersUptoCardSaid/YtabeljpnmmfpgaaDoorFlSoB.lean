/-
  Sorting a row of addresses: the partial insertion sort, the reversed range.
-/
import Derived.Test.YtabeljpnmmfpgaaDoorFlSort
namespace Go.Proofs.YtabeljpnmmfpgaaDoor
open Go.RowKit Go.MapKept
set_option linter.unusedVariables false
set_option linter.unusedSimpArgs false

theorem Asc.more {a i : Nat} {d : Nat → Int} (h : Asc a i d) (ha : a < i) (hl : d (i - 1) ≤ d i) : Asc a (i + 1) d := fun x y hx hxy hy => by
  by_cases e : y = i
  · by_cases e2 : x = i
    · rw [e, e2]; exact Int.le_refl _
    · rw [e]; exact Int.le_trans (h x (i - 1) hx (by omega) (by omega)) hl
  · exact h x y hx hxy (by omega)

theorem Asc.far {a i x y : Nat} {d : Nat → Int} (h : Asc a i d) (hx : i ≤ x) (hy : i ≤ y) : Asc a i (sw d x y) := fun u v h1 h2 h3 => by
  unfold sw
  rw [if_neg (by omega), if_neg (by omega), if_neg (by omega), if_neg (by omega)]
  exact h u v h1 h2 h3
theorem Asc.less {a i j : Nat} {d : Nat → Int} (h : Asc a i d) (hj : j ≤ i) : Asc a j d := fun u v h1 h2 h3 => h u v h1 h2 (by omega)
/-- Nothing of [a, b) is less than what stands ahead of it. -/
def Fl (a b : Nat) (d : Nat → Int) : Prop := a = 0 ∨ ∀ k, a ≤ k → k < b → d (a - 1) ≤ d k
theorem Fl.pm {a b : Nat} {d d' : Nat → Int} (h : Fl a b d) (hp : Pm a b d d') : Fl a b d' := by
  rcases h with h | h
  · exact .inl h
  · by_cases a0 : a = 0
    · exact .inl a0
    · refine .inr (fun k h1 h2 => ?_)
      rw [hp.out (a - 1) (by omega)]
      exact hp.all (Q := fun v => d (a - 1) ≤ v) h k h1 h2

set_option maxRecDepth 100000 in
set_option maxHeartbeats 8000000 in
theorem reverse_any (w : World) (g n c a b : Nat) (d : Nat → Int) (h : Rw w w g n d) (hab : a + 1 ≤ b) (hb : b ≤ n) (hn : n < 65536) :
    Calls Tryd.prog 92 #[.slice (some ⟨g, 0, none⟩) n c, .int .i64 a, .int .i64 b] w fun e w' => e = .returned (.tuple #[]) ∧ Hid (∃ d', Rw w w' g n d' ∧ Pm a b d d') := by
  obtain ⟨q, hq⟩ : ∃ q, b = q + 1 := ⟨b - 1, by omega⟩
  have EQ : Hid ((b : Int) - 1 = (q : Int)) := show _ = _ by omega
  have EB := Lib.hid hq
  have q1 : a ≤ q := by omega
  have q2 : q < n := by omega
  have H := Lib.hid h
  clear h hq
  go_enter Tryd.func92, Tryd.ntmps92
  go_wp2_with (fail)
  rw [EQ.out]
  go_loopw [6, 7] (fun u v wr => ∃ i j : Nat, u = .int .i64 i ∧ v = .int .i64 ((j : Int) - 1) ∧ a ≤ i ∧ a ≤ j ∧ j ≤ q + 1 ∧ i ≤ q + 1 ∧ ∃ e, Hid (Rw w wr g n e ∧ Pm a b d e)) (fun u _ _ => q + 1 - (intOf u).toNat)
  case atStart => exact ⟨a, q + 1, rfl, by congr 1; omega, Nat.le_refl _, by omega, Nat.le_refl _, by omega, d, H.out, Pm.refl _ _ _⟩
  case round =>
    obtain ⟨i, j, rfl, rfl, hi, hj, hjq, hiq, e, hrel⟩ := hrel
    by_cases hlt : i + 1 < j
    · obtain ⟨m, rfl⟩ : ∃ m, j = m + 1 := ⟨j - 1, by omega⟩
      have E1 : Hid ((((m + 1 : Nat) : Int)) - 1 = (m : Int)) := show _ = _ by omega
      rw [E1.out]
      have f0 := hrel.out.1.free
      have ci := hrel.out.1.cell (j := i) (by omega)
      have cm := hrel.out.1.cell (j := m) (by omega)
      obtain ⟨x, hx⟩ : ∃ x, x = e i := ⟨_, rfl⟩
      obtain ⟨y, hy⟩ : ∃ y, y = e m := ⟨_, rfl⟩
      rw [← hx] at ci; rw [← hy] at cm
      have sv := (hrel.out.1.set i y).cell (j := m) (by omega)
      obtain ⟨vv, hvv⟩ : ∃ vv, (wr.setCell ⟨g, i, none⟩ (.int .u16 y)).cell? ⟨g, m, none⟩ = some vv := ⟨_, sv⟩
      have b0 : (i : Int) < (n : Int) := by omega
      have b1 : (m : Int) < (n : Int) := by omega
      have dg : decide ((i : Int) < (m : Int)) = true := by simp; omega
      have nxt : Hid (∀ W', W' = ((wr.setCell ⟨g, i, none⟩ (.int .u16 y)).setCell ⟨g, m, none⟩ (.int .u16 x)).drew → Rw w W' g n (sw e i m) ∧ Pm a b d (sw e i m)) := by
        rintro W' rfl
        rw [hx, hy]
        have eb := EB.out
        exact ⟨(hrel.out.1.swap i m).quiet ⟨1, rfl⟩, hrel.out.2.swap (by omega) (by omega) (by omega) (by omega)⟩
      clear hx hy sv
      go_wp2_with (fail)
      go_region
      all_goals
        go_wp2_with (fail)
        go_roundw
        case rel => exact ⟨i + 1, m, by go_num, rfl, by omega, by omega, by omega, by omega, _, nxt.out _ rfl⟩
        case measure => first | (simp [intOf]; done) | (simp [intOf]; omega)
    · have dg : decide ((i : Int) < (j : Int) - 1) = false := by simp; omega
      have fin : Hid (∃ d', Rw w wr g n d' ∧ Pm a b d d') := ⟨e, hrel.out⟩
      go_wp2_with (fail)
      first | go_end0 | refine bodyPost_ret (results_none rfl _ _ _) rfl ?_
      exact ⟨rfl, fin.out⟩

/-- What the partial insertion sort leaves. -/
def PPost (w : World) (g n a b : Nat) (d : Nat → Int) (e : Ending) (w' : World) : Prop := ∃ r : Bool, e = .returned (.bool r) ∧ ∃ d', Rw w w' g n d' ∧ Pm a b d d' ∧ (r = true → Asc a b d')
theorem PPost.yes {w w' : World} {g n a b : Nat} {d : Nat → Int} (h : ∃ d', Rw w w' g n d' ∧ Pm a b d d' ∧ Asc a b d') : PPost w g n a b d (.returned (.bool true)) w' := by
  obtain ⟨d', h1, h2, h3⟩ := h
  exact ⟨true, rfl, d', h1, h2, fun _ => h3⟩
theorem PPost.no {w w' : World} {g n a b : Nat} {d : Nat → Int} (h : ∃ d', Rw w w' g n d' ∧ Pm a b d d') : PPost w g n a b d (.returned (.bool false)) w' := by
  obtain ⟨d', h1, h2⟩ := h
  exact ⟨false, rfl, d', h1, h2, fun h => by cases h⟩

set_option maxRecDepth 100000 in
set_option maxHeartbeats 16000000 in
theorem partialIns_any (w : World) (g n c a b : Nat) (d : Nat → Int) (h : Rw w w g n d) (hfl : Fl a b d) (hab : a < b) (hb : b ≤ n) (hn : n < 65536) :
    Calls Tryd.prog 93 #[.slice (some ⟨g, 0, none⟩) n c, .int .i64 a, .int .i64 b] w fun e w' => PPost w g n a b d e w' := by
  have H := Lib.hid h
  have FL := Lib.hid hfl
  clear h hfl
  go_enter Tryd.func93, Tryd.ntmps93
  go_wp2_with (fail)
  go_loopw [7, 8] (fun p q wr => ∃ i k : Nat, p = .int .i64 i ∧ q = .int .i64 k ∧ k ≤ 5 ∧ a + 1 ≤ i ∧ i ≤ b ∧ ∃ e, Hid (Rw w wr g n e ∧ Pm a b d e ∧ Asc a i e)) (fun _ q _ => 5 - (intOf q).toNat)
  case atStart => exact ⟨a + 1, 0, by go_num, rfl, by omega, Nat.le_refl _, by omega, d, H.out, Pm.refl _ _ _, asc_one a d⟩
  case round =>
    obtain ⟨i0, k, rfl, rfl, hk, hi1, hi2, e, hrel⟩ := hrel
    by_cases hk5 : k < 5
    · have dk : decide ((k : Int) < 5) = true := by simp; omega
      go_upto_block 2 with (fail)
      go_cut [7] (fun p wx => ∃ i : Nat, p = .int .i64 i ∧ i0 ≤ i ∧ i ≤ b ∧ Hid (Rw w wx g n e ∧ Asc a i e) ∧ Hid (i = b ∨ (i < b ∧ e i < e (i - 1))))
      case first =>
        go_wp2_with (fail)
        go_loopw [7] (fun p wr => ∃ i : Nat, p = .int .i64 i ∧ i0 ≤ i ∧ i ≤ b ∧ Hid (Rw w wr g n e ∧ Asc a i e)) (fun p _ => b - (intOf p).toNat)
        case atStart => exact ⟨i0, rfl, Nat.le_refl _, hi2, hrel.out.1, hrel.out.2.2⟩
        case round =>
          obtain ⟨i, rfl, hi3, hi4, hr⟩ := hrel
          by_cases hlt : i < b
          · obtain ⟨m, rfl⟩ : ∃ m, i = m + 1 := ⟨i - 1, by omega⟩
            have c0 := hr.out.1.cell (j := m + 1) (by omega)
            have c1 := hr.out.1.cell (j := m) (by omega)
            obtain ⟨x, hx⟩ : ∃ x, x = e (m + 1) := ⟨_, rfl⟩
            obtain ⟨y, hy⟩ : ∃ y, y = e m := ⟨_, rfl⟩
            rw [← hx] at c0; rw [← hy] at c1
            have HX := Lib.hid hx; have HY := Lib.hid hy
            have dg : decide ((m : Int) + 1 < (b : Int)) = true := by simp; omega
            have b0 : (0 : Int) ≤ (m : Int) + 1 := by omega
            have b1 : (m : Int) + 1 < (n : Int) := by omega
            have b2 : (m : Int) < (n : Int) := by omega
            have wm := wrapN m (by omega)
            clear hx hy
            by_cases hl : x < y
            · have d1 : decide (x < y) = true := by simpa using hl
              have out : Hid (∀ nq, Rw w (wr.drewN nq) g n e ∧ Asc a (m + 1) e) := fun nq => ⟨hr.out.1.quiet ⟨nq, rfl⟩, hr.out.2⟩
              have ex : Hid (m + 1 = b ∨ (m + 1 < b ∧ e (m + 1) < e (m + 1 - 1))) := .inr ⟨hlt, by rw [Nat.add_sub_cancel, ← HX.out, ← HY.out]; exact hl⟩
              go_wp2_with (fail)
              go_big_quiet (first | (go_at_call 94; refine Calls.quiet_of_same (less_any _ _ _)))
              go_wp2_with (fail)
              go_meet
              exact ⟨m + 1, by go_num, hi3, hi4, out.out _, ex⟩
            · have d1 : decide (x < y) = false := by simpa using hl
              have nxt : Hid (∀ nq, Rw w (wr.drewN nq) g n e ∧ Asc a (m + 1 + 1) e) := fun nq => ⟨hr.out.1.quiet ⟨nq, rfl⟩, hr.out.2.more (by omega) (by rw [Nat.add_sub_cancel, ← HX.out, ← HY.out]; omega)⟩
              go_wp2_with (fail)
              go_big_quiet (first | (go_at_call 94; refine Calls.quiet_of_same (less_any _ _ _)))
              go_wp2_with (fail)
              go_roundw
              case rel => exact ⟨m + 1 + 1, by go_num, by omega, by omega, nxt.out _⟩
              case measure => first | (simp [intOf]; done) | (simp [intOf]; omega)
          · have dg : decide ((i : Int) < (b : Int)) = false := by simp; omega
            have out : Hid (∀ nq, Rw w (wr.drewN nq) g n e ∧ Asc a i e) := fun nq => ⟨hr.out.1.quiet ⟨nq, rfl⟩, hr.out.2⟩
            have ex : Hid (i = b ∨ (i < b ∧ e i < e (i - 1))) := .inl (by omega)
            clear hr
            go_wp2_with (fail)
            go_big_quiet (first | (go_at_call 94; refine Calls.quiet_of_same (less_any _ _ _)))
            go_wp2_with (fail)
            go_meet
            exact ⟨i, rfl, hi3, hi4, out.out _, ex⟩
      case rest =>
        obtain ⟨i, rfl, hi3, hi4, R, X⟩ := hcut
        obtain ⟨W1, hW1⟩ : ∃ W1, W1 = wc := ⟨_, rfl⟩
        rw [← hW1] at R ⊢
        clear hW1
        have P := Lib.hid hrel.out.2.1
        clear hrel
        by_cases hib : i = b
        · have fin : Hid (∃ d', Rw w W1 g n d' ∧ Pm a b d d' ∧ Asc a b d') := ⟨e, R.out.1, P.out, by have := R.out.2; rw [hib] at this; exact this⟩
          have dg : ((i : Int) == (b : Int)) = true := by simp; omega
          clear hib
          go_wp2_with (fail)
          go_ret
          exact PPost.yes fin.out
        · have dg : ((i : Int) == (b : Int)) = false := by simp; omega
          by_cases hl50 : b < a + 50
          · have fin : Hid (∃ d', Rw w W1 g n d' ∧ Pm a b d d') := ⟨e, R.out.1, P.out⟩
            have dl : decide ((b : Int) - (a : Int) < 50) = true := by simp; omega
            go_wp2_with (fail)
            go_ret
            exact PPost.no fin.out
          · have dl : decide ((b : Int) - (a : Int) < 50) = false := by simp; omega
            have hlt : e i < e (i - 1) := by have := X.out; omega
            obtain ⟨m, rfl⟩ : ∃ m, i = m + 1 := ⟨i - 1, by omega⟩
            rw [Nat.add_sub_cancel] at hlt
            have f0 := R.out.1.free
            have ci := R.out.1.cell (j := m + 1) (by omega)
            have cm := R.out.1.cell (j := m) (by omega)
            obtain ⟨x, hx⟩ : ∃ x, x = e (m + 1) := ⟨_, rfl⟩
            obtain ⟨y, hy⟩ : ∃ y, y = e m := ⟨_, rfl⟩
            rw [← hx] at ci; rw [← hy] at cm
            have sv := (R.out.1.set (m + 1) y).cell (j := m) (by omega)
            obtain ⟨vv, hvv⟩ : ∃ vv, (W1.setCell ⟨g, m + 1, none⟩ (.int .u16 y)).cell? ⟨g, m, none⟩ = some vv := ⟨_, sv⟩
            have b0 : (0 : Int) ≤ (m : Int) + 1 := by omega
            have b1 : (m : Int) + 1 < (n : Int) := by omega
            have b2 : (m : Int) < (n : Int) := by omega
            have wm := wrapN m (by omega)
            have nxt : Hid (∀ W', W' = ((W1.setCell ⟨g, m + 1, none⟩ (.int .u16 y)).setCell ⟨g, m, none⟩ (.int .u16 x)).drew → Rw w W' g n (sw e (m + 1) m) ∧ Pm a b d (sw e (m + 1) m) ∧ Asc a m (sw e (m + 1) m)) := by
              rintro W' rfl
              rw [hx, hy]
              exact ⟨(R.out.1.swap (m + 1) m).quiet ⟨1, rfl⟩, P.out.swap (by omega) (by omega) (by omega) (by omega), (R.out.2.less (by omega)).far (by omega) (by omega)⟩
            clear hx hy sv hlt
            go_wp2_with (fail)
            go_region
            all_goals
              have N1 := Lib.hid (nxt.out _ rfl)
              obtain ⟨e2, he2⟩ : ∃ e2, e2 = sw e (m + 1) m := ⟨_, rfl⟩
              rw [← he2] at N1
              clear he2 ci cm f0 hvv nxt R P X
              go_upto_if 61 with (fail)
              go_cut [] (fun wx => ∃ e3, Hid (Rw w wx g n e3 ∧ Pm a b d e3 ∧ Asc a (m + 1) e3))
              case first =>
                by_cases h2 : a < m
                · have dg2 : decide ((2 : Int) ≤ (m : Int) + 1 - (a : Int)) = true := by simp; omega
                  go_wp2_with (fail)
                  go_loopw [9] (fun p wr => ∃ j : Nat, p = .int .i64 j ∧ a ≤ j ∧ j ≤ m ∧ ∃ e3, Hid (Rw w wr g n e3 ∧ Pm a b d e3 ∧ Ins a m j e3)) (fun p _ => (intOf p).toNat)
                  case atStart => exact ⟨m, by go_num, by omega, Nat.le_refl _, e2, N1.out.1, N1.out.2.1, Ins.start N1.out.2.2⟩
                  case round =>
                    obtain ⟨j, rfl, hj1, hj2, e3, hr⟩ := hrel
                    by_cases hj0 : j = 0
                    · subst hj0
                      have fin : Hid (Rw w wr g n e3 ∧ Pm a b d e3 ∧ Asc a (m + 1) e3) := ⟨hr.out.1, hr.out.2.1, hr.out.2.2.close (.inl (by omega)) hj2⟩
                      clear hr
                      go_wp2_with (fail)
                      go_meet
                      exact ⟨e3, fin⟩
                    · obtain ⟨l, rfl⟩ : ∃ l, j = l + 1 := ⟨j - 1, by omega⟩
                      have f0 := hr.out.1.free
                      have c0 := hr.out.1.cell (j := l + 1) (by omega)
                      have c1 := hr.out.1.cell (j := l) (by omega)
                      obtain ⟨u, hu⟩ : ∃ u, u = e3 (l + 1) := ⟨_, rfl⟩
                      obtain ⟨v, hv⟩ : ∃ v, v = e3 l := ⟨_, rfl⟩
                      rw [← hu] at c0; rw [← hv] at c1
                      have HU := Lib.hid hu; have HV := Lib.hid hv
                      have z0 : (0 : Int) ≤ (l : Int) + 1 := by omega
                      have z1 : (l : Int) + 1 < (n : Int) := by omega
                      have z2 : (l : Int) < (n : Int) := by omega
                      have z3 : decide ((1 : Int) ≤ (l : Int) + 1) = true := by simp; omega
                      have wl := wrapN l (by omega)
                      clear hu hv
                      by_cases hl : u < v
                      · have hal : a ≤ l := by
                          rcases Nat.lt_or_ge l a with h | h
                          · have ea : l + 1 = a := by omega
                            rcases FL.out.pm hr.out.2.1 with f | f
                            · omega
                            · have := f (l + 1) (by omega) (by omega)
                              rw [show a - 1 = l by omega, ← HU.out, ← HV.out] at this
                              omega
                          · exact h
                        have d1 : decide (u < v) = true := by simpa using hl
                        have nx3 : Hid (∀ nq W', W' = (((wr.drewN nq).setCell ⟨g, l + 1, none⟩ (.int .u16 v)).setCell ⟨g, l, none⟩ (.int .u16 u)) → Rw w W' g n (sw e3 (l + 1) l) ∧ Pm a b d (sw e3 (l + 1) l) ∧ Ins a m l (sw e3 (l + 1) l)) := by
                          rintro nq W' rfl
                          have q : Rw w (wr.drewN nq) g n e3 := hr.out.1.quiet ⟨nq, rfl⟩
                          have := q.swap (l + 1) l
                          rw [HU.out, HV.out]
                          exact ⟨this, hr.out.2.1.swap (by omega) (by omega) (by omega) (by omega), hr.out.2.2.step hal hj2 (by rw [← HU.out, ← HV.out]; exact hl)⟩
                        go_wp2_with (fail)
                        go_big_quiet (first | (go_at_call 94; refine Calls.quiet_of_same (less_any _ _ _)))
                        go_wp2_with (fail)
                        go_region
                        all_goals
                          go_wp2_with (fail)
                          go_roundw
                          case rel => exact ⟨l, by go_num, hal, by omega, _, nx3.out _ _ rfl⟩
                          case measure => first | (simp [intOf]; done) | (simp [intOf]; omega)
                      · have d1 : decide (u < v) = false := by simpa using hl
                        have fin : Hid (∀ nq, Rw w (wr.drewN nq) g n e3 ∧ Pm a b d e3 ∧ Asc a (m + 1) e3) := fun nq => by
                          refine ⟨hr.out.1.quiet ⟨nq, rfl⟩, hr.out.2.1, hr.out.2.2.close ?_ hj2⟩
                          by_cases ea : l + 1 = a
                          · exact .inl ea
                          · exact .inr ⟨by omega, by rw [Nat.add_sub_cancel, ← HU.out, ← HV.out]; omega⟩
                        go_wp2_with (fail)
                        go_big_quiet (first | (go_at_call 94; refine Calls.quiet_of_same (less_any _ _ _)))
                        go_wp2_with (fail)
                        go_meet
                        exact ⟨e3, fin.out _⟩
                · have dg2 : decide ((2 : Int) ≤ (m : Int) + 1 - (a : Int)) = false := by simp; omega
                  have fin : Hid (∃ e3, Hid (Rw w (World.drew _) g n e3 ∧ Pm a b d e3 ∧ Asc a (m + 1) e3)) := ⟨e2, N1.out.1, N1.out.2.1, by rw [show m = a by omega]; exact asc_one a e2⟩
                  clear N1
                  go_wp2_with (fail)
                  go_meet
                  exact fin.out
              case rest =>
                obtain ⟨e3, N3⟩ := hcut
                clear N1
                obtain ⟨W3, hW3⟩ : ∃ W3, W3 = wc := ⟨_, rfl⟩
                rw [← hW3] at N3 ⊢
                clear hW3
                go_upto_if 98 with (fail)
                by_cases h2 : m + 2 < b
                · have dg2 : decide ((2 : Int) ≤ (b : Int) - ((m : Int) + 1)) = true := by simp; omega
                  go_wp2_with (fail)
                  go_loopw [10] (fun p wr => ∃ j : Nat, p = .int .i64 ((j : Int) + 1) ∧ m + 1 ≤ j ∧ j + 1 ≤ b ∧ ∃ e4, Hid (Rw w wr g n e4 ∧ Pm a b d e4 ∧ Asc a (m + 1) e4)) (fun p _ => b - (intOf p).toNat)
                  case atStart => exact ⟨m + 1, by go_num, Nat.le_refl _, by omega, e3, N3.out⟩
                  case round =>
                    obtain ⟨j, rfl, hj1, hj2, e4, hr.out⟩ := hrel
                    by_cases hjb : j + 1 < b
                    · have f0 := hr.out.1.free
                      have c0 := hr.out.1.cell (j := j + 1) (by omega)
                      have c1 := hr.out.1.cell (j := j) (by omega)
                      obtain ⟨u, hu⟩ : ∃ u, u = e4 (j + 1) := ⟨_, rfl⟩
                      obtain ⟨v, hv⟩ : ∃ v, v = e4 j := ⟨_, rfl⟩
                      rw [← hu] at c0; rw [← hv] at c1
                      have HU := Lib.hid hu; have HV := Lib.hid hv
                      have z0 : (0 : Int) ≤ (j : Int) + 1 := by omega
                      have z1 : (j : Int) + 1 < (n : Int) := by omega
                      have z2 : (j : Int) < (n : Int) := by omega
                      have z3 : decide ((j : Int) + 1 < (b : Int)) = true := by simp; omega
                      have wl := wrapN j (by omega)
                      clear hu hv
                      by_cases hl : u < v
                      · have d1 : decide (u < v) = true := by simpa using hl
                        have nx3 : Hid (∀ nq W', W' = (((wr.drewN nq).setCell ⟨g, j + 1, none⟩ (.int .u16 v)).setCell ⟨g, j, none⟩ (.int .u16 u)) → Rw w W' g n (sw e4 (j + 1) j) ∧ Pm a b d (sw e4 (j + 1) j) ∧ Asc a (m + 1) (sw e4 (j + 1) j)) := by
                          rintro nq W' rfl
                          have q : Rw w (wr.drewN nq) g n e4 := hr.out.1.quiet ⟨nq, rfl⟩
                          have := q.swap (j + 1) j
                          rw [HU.out, HV.out]
                          exact ⟨this, hr.out.2.1.swap (by omega) (by omega) (by omega) (by omega), hr.out.2.2.far (by omega) (by omega)⟩
                        go_wp2_with (fail)
                        go_big_quiet (first | (go_at_call 94; refine Calls.quiet_of_same (less_any _ _ _)))
                        go_wp2_with (fail)
                        go_region
                        all_goals
                          go_wp2_with (fail)
                          go_roundw
                          case rel => exact ⟨j + 1, by go_num, by omega, by omega, _, nx3.out _ _ rfl⟩
                          case measure => first | (simp [intOf]; done) | (simp [intOf]; omega)
                      · have d1 : decide (u < v) = false := by simpa using hl
                        have fin : Hid (∀ nq, Rw w (wr.drewN nq) g n e4 ∧ Pm a b d e4 ∧ Asc a (m + 1) e4) := fun nq => ⟨hr.out.1.quiet ⟨nq, rfl⟩, hr.out.2⟩
                        go_wp2_with (fail)
                        go_big_quiet (first | (go_at_call 94; refine Calls.quiet_of_same (less_any _ _ _)))
                        go_wp2_with (fail)
                        go_roundw
                        case rel => exact ⟨m + 1, k + 1, by go_num, by go_num, by omega, by omega, by omega, e4, (fin.out _)⟩
                        case measure => first | (simp [intOf]; done) | (simp [intOf]; omega)
                    · have z3 : decide ((j : Int) + 1 < (b : Int)) = false := by simp; omega
                      go_wp2_with (fail)
                      go_roundw
                      case rel => exact ⟨m + 1, k + 1, by go_num, by go_num, by omega, by omega, by omega, e4, hr.out⟩
                      case measure => first | (simp [intOf]; done) | (simp [intOf]; omega)
                · have dg2 : decide ((2 : Int) ≤ (b : Int) - ((m : Int) + 1)) = false := by simp; omega
                  go_wp2_with (fail)
                  go_roundw
                  case rel => exact ⟨m + 1, k + 1, by go_num, by go_num, by omega, by omega, by omega, e3, N3.out⟩
                  case measure => first | (simp [intOf]; done) | (simp [intOf]; omega)
    · have dk : decide ((k : Int) < 5) = false := by simp; omega
      have fin : Hid (∃ d', Rw w wr g n d' ∧ Pm a b d d') := ⟨e, hrel.out.1, hrel.out.2.1⟩
      go_wp2_with (fail)
      go_ret
      exact PPost.no fin.out
end Go.Proofs.YtabeljpnmmfpgaaDoor
