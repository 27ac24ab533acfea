/-
  Sorting a row of addresses: the partition.
-/
import Derived.Test.YtabeljpnmmfpgaaDoorFlSort
namespace Go.Proofs.YtabeljpnmmfpgaaDoor
open Go.RowKit Go.MapKept
set_option linter.unusedVariables false
set_option linter.unusedSimpArgs false

/-- While the partition runs: the pivot lies at a, what is less ahead of i, what is not behind j. -/
structure Pt (w W : World) (g n : Nat) (d : Nat → Int) (a b i j : Nat) (x : Int) (e : Nat → Int) : Prop where
  rw : Rw w W g n e
  pm : Pm a b d e
  piv : e a = x
  lo : ∀ k, a + 1 ≤ k → k < i → e k < x
  hi : ∀ k, j < k → k < b → x ≤ e k
  ai : a + 1 ≤ i
  ij : i ≤ j + 1
  jb : j < b
theorem Pt.drewN {w W : World} {g n : Nat} {d : Nat → Int} {a b i j : Nat} {x : Int} {e : Nat → Int} (h : Pt w W g n d a b i j x e) (m : Nat) : Pt w (W.drewN m) g n d a b i j x e := { h with rw := h.rw.quiet ⟨m, rfl⟩ }
theorem Pt.start {w W : World} {g n : Nat} {d : Nat → Int} {a b p : Nat} (h : Rw w W g n (sw d a p)) (ha : a ≤ p) (hp : p < b) : Pt w W g n d a b (a + 1) (b - 1) (d p) (sw d a p) :=
  ⟨h, (Pm.refl _ _ _).swap (Nat.le_refl _) (by omega) ha hp, by unfold sw; rw [if_pos rfl], fun k h1 h2 => by omega, fun k h1 h2 => by omega, Nat.le_refl _, by omega, by omega⟩
theorem Pt.up {w W : World} {g n : Nat} {d : Nat → Int} {a b i j : Nat} {x : Int} {e : Nat → Int} (h : Pt w W g n d a b i j x e) (hij : i ≤ j) (hl : e i < x) : Pt w W g n d a b (i + 1) j x e :=
  { h with lo := fun k h1 h2 => by
             by_cases ek : k = i
             · rw [ek]; exact hl
             · exact h.lo k h1 (by omega)
           ai := by have := h.ai; omega
           ij := by omega }
theorem Pt.down {w W : World} {g n : Nat} {d : Nat → Int} {a b i j : Nat} {x : Int} {e : Nat → Int} (h : Pt w W g n d a b i (j + 1) x e) (hij : i ≤ j + 1) (hl : x ≤ e (j + 1)) : Pt w W g n d a b i j x e :=
  { h with hi := fun k h1 h2 => by
             by_cases ek : k = j + 1
             · rw [ek]; exact hl
             · exact h.hi k (by omega) h2
           ij := hij
           jb := by have := h.jb; omega }
theorem Pt.swap {w W W' : World} {g n : Nat} {d : Nat → Int} {a b i j : Nat} {x : Int} {e : Nat → Int} (h : Pt w W g n d a b i (j + 1) x e) (hij : i < j + 1) (hi : x ≤ e i) (hj : e (j + 1) < x) (hr : Rw w W' g n (sw e i (j + 1))) : Pt w W' g n d a b (i + 1) j x (sw e i (j + 1)) := by
  have h1 := h.ai; have h2 := h.jb
  refine ⟨hr, h.pm.swap (by omega) (by omega) (by omega) h2, ?_, ?_, ?_, by omega, by omega, by omega⟩
  · unfold sw; rw [if_neg (by omega), if_neg (by omega)]; exact h.piv
  · intro k k1 k2
    unfold sw
    by_cases e1 : k = i
    · rw [if_pos e1]; exact hj
    · rw [if_neg e1, if_neg (by omega)]; exact h.lo k k1 (by omega)
  · intro k k1 k2
    unfold sw
    rw [if_neg (by omega)]
    by_cases e2 : k = j + 1
    · rw [if_pos e2]; exact hi
    · rw [if_neg e2]; exact h.hi k (by omega) k2

/-- What the partition leaves. -/
structure PtEnd (w W : World) (g n : Nat) (d : Nat → Int) (a b m : Nat) (e : Nat → Int) : Prop where
  rw : Rw w W g n e
  pm : Pm a b d e
  am : a ≤ m
  mb : m < b
  lo : ∀ k, a ≤ k → k < m → e k < e m
  hi : ∀ k, m < k → k < b → e m ≤ e k
theorem Pt.done {w W W' : World} {g n : Nat} {d : Nat → Int} {a b i j : Nat} {x : Int} {e : Nat → Int} (h : Pt w W g n d a b i j x e) (hij : j < i) (hr : Rw w W' g n (sw e j a)) : PtEnd w W' g n d a b j (sw e j a) := by
  have h1 := h.ai; have h2 := h.jb; have h3 := h.ij
  have em : sw e j a j = x := by unfold sw; rw [if_pos rfl]; exact h.piv
  refine ⟨hr, h.pm.swap (by omega) h2 (Nat.le_refl _) (by omega), by omega, h2, ?_, ?_⟩
  · intro k k1 k2
    rw [em]
    unfold sw
    rw [if_neg (by omega)]
    by_cases e2 : k = a
    · rw [if_pos e2]; exact h.lo j (by omega) (by omega)
    · rw [if_neg e2]; exact h.lo k (by omega) (by omega)
  · intro k k1 k2
    rw [em]
    unfold sw
    rw [if_neg (by omega), if_neg (by omega)]
    exact h.hi k k1 k2

set_option maxRecDepth 100000 in
set_option maxHeartbeats 8000000 in
theorem partition_any (w : World) (g n c a b p : Nat) (d : Nat → Int) (h : Rw w w g n d) (hap : a ≤ p) (hpb : p < b) (hb : b ≤ n) (hn : n ≤ 1000000000) :
    Calls Tryd.prog 96 #[.slice (some ⟨g, 0, none⟩) n c, .int .i64 a, .int .i64 b, .int .i64 p] w fun e w' => ∃ (m : Nat) (r : Bool), e = .returned (.tuple #[.int .i64 m, .bool r]) ∧ Hid (∃ e, PtEnd w w' g n d a b m e) := by
  obtain ⟨q, hq⟩ : ∃ q, b = q + 1 := ⟨b - 1, by omega⟩
  have H := Lib.hid h
  have ca := h.cell (j := a) (by omega)
  have cp := h.cell (j := p) (by omega)
  have f0 := h.free
  obtain ⟨y0, hx⟩ : ∃ y0, y0 = d a := ⟨_, rfl⟩
  obtain ⟨x, hy⟩ : ∃ x, x = d p := ⟨_, rfl⟩
  have b0 : (a : Int) < (n : Int) := by omega
  have b1 : (p : Int) < (n : Int) := by omega
  have sv := (h.set a x).cell (j := p) (by omega)
  obtain ⟨vv, hvv⟩ : ∃ vv, (w.setCell ⟨g, a, none⟩ (.int .u16 x)).cell? ⟨g, p, none⟩ = some vv := ⟨_, sv⟩
  have st : Hid (∀ W', W' = ((w.setCell ⟨g, a, none⟩ (.int .u16 x)).setCell ⟨g, p, none⟩ (.int .u16 y0)).drew → Pt w W' g n d a b (a + 1) q x (sw d a p)) := by
    rintro W' rfl
    rw [hx, hy]
    have h2 := Pt.start (b := b) ((h.swap a p).quiet ⟨1, rfl⟩) hap hpb
    rw [show b - 1 = q by omega] at h2
    exact h2
  rw [← hx] at ca; rw [← hy] at cp
  have HQ : Hid ((b : Int) - 1 = (q : Int)) := show _ = _ by omega
  clear h hx hy sv hq
  go_enter Tryd.func96, Tryd.ntmps96
  go_wp2_with (fail)
  go_region
  all_goals
    have P0 := Lib.hid (st.out _ rfl)
    obtain ⟨e1, he1⟩ : ∃ e1, e1 = sw d a p := ⟨_, rfl⟩
    rw [← he1] at P0
    clear st ca cp f0 hvv he1
    go_upto_region 2 with (fail)
    go_cut [10, 11] (fun u v wx => u = .int .i64 ((a : Int) + 1) ∧ v = .int .i64 (q : Int) ∧ Hid (Pt w wx g n d a b (a + 1) q x e1))
    case first =>
      go_wp2_with (fail)
      go_meet
      exact ⟨rfl, by first | rw [HQ.out] | rfl, P0⟩
    case rest =>
      obtain ⟨rfl, rfl, P0⟩ := hcut
      go_upto_block 0 with (fail)
      go_cut [10] (fun p wx => ∃ i : Nat, p = .int .i64 i ∧ a + 1 ≤ i ∧ Hid (Pt w wx g n d a b i q x e1) ∧ Hid (q < i ∨ x ≤ e1 i))
      case first =>
        go_wp2_with (fail)
        go_loopw [10] (fun p wr => ∃ i : Nat, p = .int .i64 i ∧ a + 1 ≤ i ∧ Hid (Pt w wr g n d a b i q x e1)) (fun p _ => b - (intOf p).toNat)
        case atStart => exact ⟨a + 1, by go_num, Nat.le_refl _, P0⟩
        case round =>
          obtain ⟨i, rfl, hi0, hr⟩ := hrel
          have q1 := hr.out.ai
          have q2 := hr.out.jb
          have q3 := hr.out.ij
          by_cases hij : i ≤ q
          · have ci := hr.out.rw.cell (j := i) (by omega)
            have cx := hr.out.rw.cell (j := a) (by omega)
            rw [hr.out.piv] at cx
            obtain ⟨y, hy⟩ : ∃ y, y = e1 i := ⟨_, rfl⟩
            rw [← hy] at ci
            have HY := Lib.hid hy
            have dg : decide ((i : Int) ≤ (q : Int)) = true := by simp; omega
            have z0 : (i : Int) < (n : Int) := by omega
            have z1 : (a : Int) < (n : Int) := by omega
            clear hy
            by_cases hl : y < x
            · have d1 : decide (y < x) = true := by simpa using hl
              have nxt : Hid (∀ nq, Pt w (wr.drewN nq) g n d a b (i + 1) q x e1) := fun nq => (hr.out.drewN nq).up hij (by rw [← HY.out]; exact hl)
              go_wp2_with (fail)
              go_big_quiet (first | (go_at_call 94; refine Calls.quiet_of_same (less_any _ _ _)))
              go_wp2_with (fail)
              go_roundw
              case rel => exact ⟨i + 1, by go_num, by omega, nxt.out _⟩
              case measure => first | (simp [intOf]; done) | (simp [intOf]; omega)
            · have d1 : decide (y < x) = false := by simpa using hl
              have out : Hid (∀ nq, Pt w (wr.drewN nq) g n d a b i q x e1) := fun nq => hr.out.drewN nq
              have ex : Hid (q < i ∨ x ≤ e1 i) := .inr (by rw [← HY.out]; omega)
              go_wp2_with (fail)
              go_big_quiet (first | (go_at_call 94; refine Calls.quiet_of_same (less_any _ _ _)))
              go_wp2_with (fail)
              go_meet
              exact ⟨i, rfl, hi0, out.out _, ex⟩
          · have out : Hid (∀ nq, Pt w (wr.drewN nq) g n d a b i q x e1) := fun nq => hr.out.drewN nq
            have ex : Hid (q < i ∨ x ≤ e1 i) := .inl (by omega)
            clear hr q1 q2 q3
            go_wp2_with (fail)
            go_big_quiet (first | (go_at_call 94; refine Calls.quiet_of_same (less_any _ _ _)))
            go_wp2_with (fail)
            go_meet
            exact ⟨i, rfl, hi0, out.out _, ex⟩
      case rest =>
        obtain ⟨i1, rfl, hi1, P0, X1⟩ := hcut
        go_upto_block 2 with (fail)
        go_cut [11] (fun p wx => ∃ j : Nat, p = .int .i64 j ∧ j ≤ q ∧ Hid (Pt w wx g n d a b i1 j x e1) ∧ Hid (j < i1 ∨ e1 j < x))
        case first =>
          go_wp2_with (fail)
          go_loopw [11] (fun p wr => ∃ j : Nat, p = .int .i64 j ∧ j ≤ q ∧ Hid (Pt w wr g n d a b i1 j x e1)) (fun p _ => (intOf p).toNat)
          case atStart => exact ⟨q, by go_num, Nat.le_refl _, P0⟩
          case round =>
            obtain ⟨j, rfl, hj0, hr⟩ := hrel
            have q1 := hr.out.ai
            have q2 := hr.out.jb
            have q3 := hr.out.ij
            by_cases hij : i1 ≤ j
            · obtain ⟨m, rfl⟩ : ∃ m, j = m + 1 := ⟨j - 1, by omega⟩
              have cj := hr.out.rw.cell (j := m + 1) (by omega)
              have cx := hr.out.rw.cell (j := a) (by omega)
              rw [hr.out.piv] at cx
              obtain ⟨y, hy⟩ : ∃ y, y = e1 (m + 1) := ⟨_, rfl⟩
              rw [← hy] at cj
              have HY := Lib.hid hy
              have dg : decide ((i1 : Int) ≤ (m : Int) + 1) = true := by simp; omega
              have z0 : (m : Int) + 1 < (n : Int) := by omega
              have z1 : (a : Int) < (n : Int) := by omega
              have z2 : (0 : Int) ≤ (m : Int) + 1 := by omega
              have wm := wrapN m (by omega)
              clear hy
              by_cases hl : y < x
              · have d1 : decide (y < x) = true := by simpa using hl
                have out : Hid (∀ nq, Pt w (wr.drewN nq) g n d a b i1 (m + 1) x e1) := fun nq => hr.out.drewN nq
                have ex : Hid (m + 1 < i1 ∨ e1 (m + 1) < x) := .inr (by rw [← HY.out]; exact hl)
                go_wp2_with (fail)
                go_big_quiet (first | (go_at_call 94; refine Calls.quiet_of_same (less_any _ _ _)))
                go_wp2_with (fail)
                go_meet
                exact ⟨m + 1, by go_num, hj0, out.out _, ex⟩
              · have d1 : decide (y < x) = false := by simpa using hl
                have nxt : Hid (∀ nq, Pt w (wr.drewN nq) g n d a b i1 m x e1) := fun nq => (hr.out.drewN nq).down (by omega) (by rw [← HY.out]; omega)
                go_wp2_with (fail)
                go_big_quiet (first | (go_at_call 94; refine Calls.quiet_of_same (less_any _ _ _)))
                go_wp2_with (fail)
                go_roundw
                case rel => first | exact ⟨m, by go_num, by omega, nxt.out _⟩ | exact ⟨_, _, _, _, _, _, _, _, _, _, _, _, _, _, _, _, _, _, ⟨m, rfl, by omega, nxt.out _⟩, rfl⟩
                case measure => first | (simp [intOf]; done) | (simp [intOf]; omega)
            · have out : Hid (∀ nq, Pt w (wr.drewN nq) g n d a b i1 j x e1) := fun nq => hr.out.drewN nq
              have ex : Hid (j < i1 ∨ e1 j < x) := .inl (by omega)
              clear hr q1 q2 q3
              go_wp2_with (fail)
              go_big_quiet (first | (go_at_call 94; refine Calls.quiet_of_same (less_any _ _ _)))
              go_wp2_with (fail)
              go_meet
              exact ⟨j, rfl, hj0, out.out _, ex⟩
        case rest =>
          obtain ⟨j1, rfl, hj1, P1, X2⟩ := hcut
          clear P0
          have s1 := P1.out.ij
          by_cases hgt : j1 < i1
          · have dgt : decide ((j1 : Int) < (i1 : Int)) = true := by simp; omega
            have r1 := P1.out.ai
            have r2 := P1.out.jb
            have cj := P1.out.rw.cell (j := j1) (by omega)
            have cx := P1.out.rw.cell (j := a) (by omega)
            have ff := P1.out.rw.free
            have sv := (P1.out.rw.set j1 (e1 a)).cell (j := a) (by omega)
            obtain ⟨y, hy⟩ : ∃ y, y = e1 j1 := ⟨_, rfl⟩
            obtain ⟨u, hu⟩ : ∃ u, u = e1 a := ⟨_, rfl⟩
            rw [← hy] at cj
            rw [← hu] at cx sv
            obtain ⟨vv, hvv⟩ : ∃ vv, (wc.setCell ⟨g, j1, none⟩ (.int .u16 u)).cell? ⟨g, a, none⟩ = some vv := ⟨_, sv⟩
            have z0 : (j1 : Int) < (n : Int) := by omega
            have z1 : (a : Int) < (n : Int) := by omega
            have fin : Hid (∀ W', W' = ((wc.setCell ⟨g, j1, none⟩ (.int .u16 u)).setCell ⟨g, a, none⟩ (.int .u16 y)).drew → ∃ e, PtEnd w W' g n d a b j1 e) := by
              rintro W' rfl
              rw [hy, hu]
              exact ⟨_, P1.out.done (by omega) ((P1.out.rw.swap j1 a).quiet ⟨1, rfl⟩)⟩
            clear hy hu sv
            go_wp2_with (fail)
            go_region
            all_goals
              go_wp2_with (fail)
              go_ret2
              exact ⟨j1, true, rfl, fin.out _ rfl⟩
          · have dgt : decide ((j1 : Int) < (i1 : Int)) = false := by simp; omega
            have r1 := P1.out.ai
            have r2 := P1.out.jb
            have hlt : i1 < j1 := by
              rcases Nat.lt_or_ge i1 j1 with h | h
              · exact h
              · have heq : i1 = j1 := by omega
                have t1 := X1.out
                have t2 := X2.out
                rw [heq] at t1
                omega
            have hxi : x ≤ e1 i1 := by have := X1.out; omega
            have hxj : e1 j1 < x := by have := X2.out; omega
            obtain ⟨m, rfl⟩ : ∃ m, j1 = m + 1 := ⟨j1 - 1, by omega⟩
            have ci := P1.out.rw.cell (j := i1) (by omega)
            have cj := P1.out.rw.cell (j := m + 1) (by omega)
            have ff := P1.out.rw.free
            obtain ⟨y, hy⟩ : ∃ y, y = e1 i1 := ⟨_, rfl⟩
            obtain ⟨u, hu⟩ : ∃ u, u = e1 (m + 1) := ⟨_, rfl⟩
            rw [← hy] at ci
            rw [← hu] at cj
            have sv := (P1.out.rw.set i1 u).cell (j := m + 1) (by omega)
            obtain ⟨vv, hvv⟩ : ∃ vv, (wc.setCell ⟨g, i1, none⟩ (.int .u16 u)).cell? ⟨g, m + 1, none⟩ = some vv := ⟨_, sv⟩
            have z0 : (i1 : Int) < (n : Int) := by omega
            have z1 : (m : Int) + 1 < (n : Int) := by omega
            have z2 : (0 : Int) ≤ (m : Int) + 1 := by omega
            have wm := wrapN m (by omega)
            have nxt : Hid (∀ W', W' = ((wc.setCell ⟨g, i1, none⟩ (.int .u16 u)).setCell ⟨g, m + 1, none⟩ (.int .u16 y)).drew → Pt w W' g n d a b (i1 + 1) m x (sw e1 i1 (m + 1))) := by
              rintro W' rfl
              rw [hy, hu]
              exact P1.out.swap hlt hxi hxj ((P1.out.rw.swap i1 (m + 1)).quiet ⟨1, rfl⟩)
            clear hy hu sv hxi hxj
            go_wp2_with (fail)
            go_region
            all_goals
              go_wp2_with (fail)
              go_loopw [10, 11] (fun p q wr => ∃ (i j : Nat) (e : Nat → Int), p = .int .i64 i ∧ q = .int .i64 j ∧ Hid (Pt w wr g n d a b i j x e)) (fun p q _ => (intOf q - intOf p + 1).toNat)
              case atStart => exact ⟨i1 + 1, m, _, by go_num, by go_num, nxt.out _ rfl⟩
              case round =>
                obtain ⟨i3, j3, e3, rfl, rfl, P3⟩ := hrel
                go_upto_block 6 with (fail)
                go_cut [10] (fun p wx => ∃ i : Nat, p = .int .i64 i ∧ i3 ≤ i ∧ Hid (Pt w wx g n d a b i j3 x e3) ∧ Hid (j3 < i ∨ x ≤ e3 i))
                case first =>
                  go_wp2_with (fail)
                  go_loopw [10] (fun p wr => ∃ i : Nat, p = .int .i64 i ∧ i3 ≤ i ∧ Hid (Pt w wr g n d a b i j3 x e3)) (fun p _ => b - (intOf p).toNat)
                  case atStart => exact ⟨i3, by go_num, Nat.le_refl _, P3⟩
                  case round =>
                    obtain ⟨i, rfl, hi0, hr⟩ := hrel
                    have q1 := hr.out.ai
                    have q2 := hr.out.jb
                    have q3 := hr.out.ij
                    by_cases hij : i ≤ j3
                    · have ci := hr.out.rw.cell (j := i) (by omega)
                      have cx := hr.out.rw.cell (j := a) (by omega)
                      rw [hr.out.piv] at cx
                      obtain ⟨y, hy⟩ : ∃ y, y = e3 i := ⟨_, rfl⟩
                      rw [← hy] at ci
                      have HY := Lib.hid hy
                      have dg : decide ((i : Int) ≤ (j3 : Int)) = true := by simp; omega
                      have z0 : (i : Int) < (n : Int) := by omega
                      have z1 : (a : Int) < (n : Int) := by omega
                      clear hy
                      by_cases hl : y < x
                      · have d1 : decide (y < x) = true := by simpa using hl
                        have nxt : Hid (∀ nq, Pt w (wr.drewN nq) g n d a b (i + 1) j3 x e3) := fun nq => (hr.out.drewN nq).up hij (by rw [← HY.out]; exact hl)
                        go_wp2_with (fail)
                        go_big_quiet (first | (go_at_call 94; refine Calls.quiet_of_same (less_any _ _ _)))
                        go_wp2_with (fail)
                        go_roundw
                        case rel => exact ⟨i + 1, by go_num, by omega, nxt.out _⟩
                        case measure => first | (simp [intOf]; done) | (simp [intOf]; omega)
                      · have d1 : decide (y < x) = false := by simpa using hl
                        have out : Hid (∀ nq, Pt w (wr.drewN nq) g n d a b i j3 x e3) := fun nq => hr.out.drewN nq
                        have ex : Hid (j3 < i ∨ x ≤ e3 i) := .inr (by rw [← HY.out]; omega)
                        go_wp2_with (fail)
                        go_big_quiet (first | (go_at_call 94; refine Calls.quiet_of_same (less_any _ _ _)))
                        go_wp2_with (fail)
                        go_meet
                        exact ⟨i, rfl, hi0, out.out _, ex⟩
                    · have out : Hid (∀ nq, Pt w (wr.drewN nq) g n d a b i j3 x e3) := fun nq => hr.out.drewN nq
                      have ex : Hid (j3 < i ∨ x ≤ e3 i) := .inl (by omega)
                      clear hr q1 q2 q3
                      go_wp2_with (fail)
                      go_big_quiet (first | (go_at_call 94; refine Calls.quiet_of_same (less_any _ _ _)))
                      go_wp2_with (fail)
                      go_meet
                      exact ⟨i, rfl, hi0, out.out _, ex⟩
                case rest =>
                  obtain ⟨i4, rfl, hi4, P3, X3⟩ := hcut
                  go_upto_block 8 with (fail)
                  go_cut [11] (fun p wx => ∃ j : Nat, p = .int .i64 j ∧ j ≤ j3 ∧ Hid (Pt w wx g n d a b i4 j x e3) ∧ Hid (j < i4 ∨ e3 j < x))
                  case first =>
                    go_wp2_with (fail)
                    go_loopw [11] (fun p wr => ∃ j : Nat, p = .int .i64 j ∧ j ≤ j3 ∧ Hid (Pt w wr g n d a b i4 j x e3)) (fun p _ => (intOf p).toNat)
                    case atStart => exact ⟨j3, by go_num, Nat.le_refl _, P3⟩
                    case round =>
                      obtain ⟨j, rfl, hj0, hr⟩ := hrel
                      have q1 := hr.out.ai
                      have q2 := hr.out.jb
                      have q3 := hr.out.ij
                      by_cases hij : i4 ≤ j
                      · obtain ⟨m, rfl⟩ : ∃ m, j = m + 1 := ⟨j - 1, by omega⟩
                        have cj := hr.out.rw.cell (j := m + 1) (by omega)
                        have cx := hr.out.rw.cell (j := a) (by omega)
                        rw [hr.out.piv] at cx
                        obtain ⟨y, hy⟩ : ∃ y, y = e3 (m + 1) := ⟨_, rfl⟩
                        rw [← hy] at cj
                        have HY := Lib.hid hy
                        have dg : decide ((i4 : Int) ≤ (m : Int) + 1) = true := by simp; omega
                        have z0 : (m : Int) + 1 < (n : Int) := by omega
                        have z1 : (a : Int) < (n : Int) := by omega
                        have z2 : (0 : Int) ≤ (m : Int) + 1 := by omega
                        have wm := wrapN m (by omega)
                        clear hy
                        by_cases hl : y < x
                        · have d1 : decide (y < x) = true := by simpa using hl
                          have out : Hid (∀ nq, Pt w (wr.drewN nq) g n d a b i4 (m + 1) x e3) := fun nq => hr.out.drewN nq
                          have ex : Hid (m + 1 < i4 ∨ e3 (m + 1) < x) := .inr (by rw [← HY.out]; exact hl)
                          go_wp2_with (fail)
                          go_big_quiet (first | (go_at_call 94; refine Calls.quiet_of_same (less_any _ _ _)))
                          go_wp2_with (fail)
                          go_meet
                          exact ⟨m + 1, by go_num, hj0, out.out _, ex⟩
                        · have d1 : decide (y < x) = false := by simpa using hl
                          have nxt : Hid (∀ nq, Pt w (wr.drewN nq) g n d a b i4 m x e3) := fun nq => (hr.out.drewN nq).down (by omega) (by rw [← HY.out]; omega)
                          go_wp2_with (fail)
                          go_big_quiet (first | (go_at_call 94; refine Calls.quiet_of_same (less_any _ _ _)))
                          go_wp2_with (fail)
                          go_roundw
                          case rel => first | exact ⟨m, by go_num, by omega, nxt.out _⟩ | exact ⟨_, _, _, _, _, _, _, _, _, _, _, _, _, _, _, _, _, _, ⟨m, rfl, by omega, nxt.out _⟩, rfl⟩
                          case measure => first | (simp [intOf]; done) | (simp [intOf]; omega)
                      · have out : Hid (∀ nq, Pt w (wr.drewN nq) g n d a b i4 j x e3) := fun nq => hr.out.drewN nq
                        have ex : Hid (j < i4 ∨ e3 j < x) := .inl (by omega)
                        clear hr q1 q2 q3
                        go_wp2_with (fail)
                        go_big_quiet (first | (go_at_call 94; refine Calls.quiet_of_same (less_any _ _ _)))
                        go_wp2_with (fail)
                        go_meet
                        exact ⟨j, rfl, hj0, out.out _, ex⟩
                  case rest =>
                    obtain ⟨j4, rfl, hj4, P4, X4⟩ := hcut
                    clear P3
                    have s3 := P4.out.ij
                    by_cases hgt : j4 < i4
                    · have dgt : decide ((j4 : Int) < (i4 : Int)) = true := by simp; omega
                      have r1 := P4.out.ai
                      have r2 := P4.out.jb
                      have cj := P4.out.rw.cell (j := j4) (by omega)
                      have cx := P4.out.rw.cell (j := a) (by omega)
                      have ff := P4.out.rw.free
                      have sv := (P4.out.rw.set j4 (e3 a)).cell (j := a) (by omega)
                      obtain ⟨y, hy⟩ : ∃ y, y = e3 j4 := ⟨_, rfl⟩
                      obtain ⟨u, hu⟩ : ∃ u, u = e3 a := ⟨_, rfl⟩
                      rw [← hy] at cj
                      rw [← hu] at cx sv
                      obtain ⟨vv, hvv⟩ : ∃ vv, (wc.setCell ⟨g, j4, none⟩ (.int .u16 u)).cell? ⟨g, a, none⟩ = some vv := ⟨_, sv⟩
                      have z0 : (j4 : Int) < (n : Int) := by omega
                      have z1 : (a : Int) < (n : Int) := by omega
                      have fin : Hid (∀ W', W' = ((wc.setCell ⟨g, j4, none⟩ (.int .u16 u)).setCell ⟨g, a, none⟩ (.int .u16 y)).drew → ∃ e, PtEnd w W' g n d a b j4 e) := by
                        rintro W' rfl
                        rw [hy, hu]
                        exact ⟨_, P4.out.done (by omega) ((P4.out.rw.swap j4 a).quiet ⟨1, rfl⟩)⟩
                      clear hy hu sv
                      go_wp2_with (fail)
                      go_region
                      all_goals
                        go_wp2_with (fail)
                        go_ret2
                        exact ⟨j4, false, rfl, fin.out _ rfl⟩
                    · have dgt : decide ((j4 : Int) < (i4 : Int)) = false := by simp; omega
                      have r1 := P4.out.ai
                      have r2 := P4.out.jb
                      have hlt : i4 < j4 := by
                        rcases Nat.lt_or_ge i4 j4 with h | h
                        · exact h
                        · have heq : i4 = j4 := by omega
                          have t1 := X3.out
                          have t2 := X4.out
                          rw [heq] at t1
                          omega
                      have hxi : x ≤ e3 i4 := by have := X3.out; omega
                      have hxj : e3 j4 < x := by have := X4.out; omega
                      obtain ⟨m, rfl⟩ : ∃ m, j4 = m + 1 := ⟨j4 - 1, by omega⟩
                      have ci := P4.out.rw.cell (j := i4) (by omega)
                      have cj := P4.out.rw.cell (j := m + 1) (by omega)
                      have ff := P4.out.rw.free
                      obtain ⟨y, hy⟩ : ∃ y, y = e3 i4 := ⟨_, rfl⟩
                      obtain ⟨u, hu⟩ : ∃ u, u = e3 (m + 1) := ⟨_, rfl⟩
                      rw [← hy] at ci
                      rw [← hu] at cj
                      have sv := (P4.out.rw.set i4 u).cell (j := m + 1) (by omega)
                      obtain ⟨vv, hvv⟩ : ∃ vv, (wc.setCell ⟨g, i4, none⟩ (.int .u16 u)).cell? ⟨g, m + 1, none⟩ = some vv := ⟨_, sv⟩
                      have z0 : (i4 : Int) < (n : Int) := by omega
                      have z1 : (m : Int) + 1 < (n : Int) := by omega
                      have z2 : (0 : Int) ≤ (m : Int) + 1 := by omega
                      have wm := wrapN m (by omega)
                      have nxt : Hid (∀ W', W' = ((wc.setCell ⟨g, i4, none⟩ (.int .u16 u)).setCell ⟨g, m + 1, none⟩ (.int .u16 y)).drew → Pt w W' g n d a b (i4 + 1) m x (sw e3 i4 (m + 1))) := by
                        rintro W' rfl
                        rw [hy, hu]
                        exact P4.out.swap hlt hxi hxj ((P4.out.rw.swap i4 (m + 1)).quiet ⟨1, rfl⟩)
                      clear hy hu sv hxi hxj
                      go_wp2_with (fail)
                      go_region
                      all_goals
                        go_wp2_with (fail)
                        go_roundw
                        case rel => exact ⟨i4 + 1, m, _, by go_num, by go_num, nxt.out _ rfl⟩
                        case measure => first | (simp [intOf]; done) | (simp [intOf]; omega)
end Go.Proofs.YtabeljpnmmfpgaaDoor
