/-
  Sorting a row of addresses: pdqsort of any row of different addresses, slices.Sort.
-/
import Derived.Test.YtabeljpnmmfpgaaDoorFlSoA
import Derived.Test.YtabeljpnmmfpgaaDoorFlSoB
import Derived.Test.YtabeljpnmmfpgaaDoorFlSoC
import Derived.Test.YtabeljpnmmfpgaaDoorFlSoD
import Derived.Test.YtabeljpnmmfpgaaDoorFlSoE
namespace Go.Proofs.YtabeljpnmmfpgaaDoor
open Go.RowKit Go.MapKept
set_option linter.unusedVariables false
set_option linter.unusedSimpArgs false

/-- What a round of pdqsort of [A, B) has: [a, b) is still to be sorted, all else stands in its place. -/
structure Qs (w W : World) (g n A B : Nat) (d : Nat → Int) (a b : Nat) (e : Nat → Int) : Prop where
  rw : Rw w W g n e
  pm : Pm A B d e
  inj : Inj n e
  aa : A ≤ a
  ab : a ≤ b
  bB : b ≤ B
  out : ∀ x y, A ≤ x → x ≤ y → y < B → (x < a ∨ b ≤ y) → e x ≤ e y
  fl : Fl a b e
theorem Qs.start {w : World} {g n A B : Nat} {d : Nat → Int} (h : Rw w w g n d) (hi : Inj n d) (hf : Fl A B d) (hAB : A ≤ B) : Qs w w g n A B d A B d :=
  ⟨h, Pm.refl _ _ _, hi, Nat.le_refl _, hAB, Nat.le_refl _, fun x y h0 h1 h2 h3 => by omega, hf⟩
theorem Qs.shuffle {w W : World} {g n A B : Nat} {d : Nat → Int} {a b : Nat} {e e' : Nat → Int} (h : Qs w W g n A B d a b e) (hp : Pm a b e e') (hn : B ≤ n) : Pm A B d e' ∧ Inj n e' ∧ (∀ x y, A ≤ x → x ≤ y → y < B → (x < a ∨ b ≤ y) → e' x ≤ e' y) ∧ Fl a b e' := by
  have h1 := h.ab; have h2 := h.bB; have h0 := h.aa
  refine ⟨h.pm.trans (hp.mono h0 h2), hp.inj (by omega) h.inj, fun x y hA hxy hy ho => ?_, h.fl.pm hp⟩
  by_cases hx : a ≤ x ∧ x < b
  · obtain ⟨m, m1, m2, m3⟩ := hp.mem x hx.1 hx.2
    rw [m3, hp.out y (by omega)]
    exact h.out m y (by omega) (by omega) hy (.inr (by omega))
  · rw [hp.out x hx]
    by_cases hy' : a ≤ y ∧ y < b
    · obtain ⟨m, m1, m2, m3⟩ := hp.mem y hy'.1 hy'.2
      rw [m3]
      exact h.out x m hA (by omega) (by omega) (.inl (by omega))
    · rw [hp.out y hy']; exact h.out x y hA hxy hy ho
theorem Qs.done {w W : World} {g n A B : Nat} {d : Nat → Int} {a b : Nat} {e e' : Nat → Int} (h : Qs w W g n A B d a b e) {W' : World} (hr : Rw w W' g n e') (hp : Pm a b e e') (hs : Asc a b e') (hn : B ≤ n) : Rw w W' g n e' ∧ Pm A B d e' ∧ Asc A B e' := by
  obtain ⟨q1, q2, q3, _⟩ := h.shuffle hp hn
  refine ⟨hr, q1, fun x y hx hxy hy => ?_⟩
  by_cases ho : x < a ∨ b ≤ y
  · exact q3 x y hx hxy hy ho
  · exact hs x y (by omega) hxy (by omega)
/-- The left part is sorted, the right one is left. -/
theorem Qs.right {w W W3 : World} {g n A B : Nat} {d : Nat → Int} {a b m : Nat} {e e2 e3 : Nat → Int} (h : Qs w W g n A B d a b e) (hp : Pm a b e e2) (hn : B ≤ n) (am : a ≤ m) (mb : m < b) (hlo : ∀ k, a ≤ k → k < m → e2 k < e2 m) (hhi : ∀ k, m < k → k < b → e2 m ≤ e2 k)
    (hr : Rw w W3 g n e3) (hp3 : Pm a m e2 e3) (hs : Asc a m e3) : Qs w W3 g n A B d (m + 1) b e3 := by
  have h2 := h.bB; have h0 := h.aa
  have hp' : Pm a b e e3 := hp.trans (hp3.mono (Nat.le_refl _) (by omega))
  obtain ⟨q1, q2, q3, _⟩ := h.shuffle hp' hn
  have hm : e3 m = e2 m := hp3.out m (by omega)
  have hlo3 : ∀ k, a ≤ k → k < m → e3 k < e3 m := by rw [hm]; exact hp3.all (Q := fun v => v < e2 m) hlo
  have hhi3 : ∀ k, m < k → k < b → e3 m ≤ e3 k := fun k k1 k2 => by rw [hm, hp3.out k (by omega)]; exact hhi k k1 k2
  refine ⟨hr, q1, q2, by omega, by omega, h2, fun x y hA hxy hy ho => ?_, .inr (fun k k1 k2 => hhi3 k (by omega) k2)⟩
  by_cases ho' : x < a ∨ b ≤ y
  · exact q3 x y hA hxy hy ho'
  · have x1 : a ≤ x := by omega
    have y1 : y < b := by omega
    have x2 : x ≤ m := by omega
    by_cases y2 : y < m
    · exact hs x y x1 hxy y2
    · have e1 : e3 x ≤ e3 m := by
        by_cases x3 : x = m
        · rw [x3]; exact Int.le_refl _
        · exact Int.le_of_lt (hlo3 x x1 (by omega))
      by_cases y3 : y = m
      · rw [y3]; exact e1
      · exact Int.le_trans e1 (hhi3 y (by omega) y1)
/-- The right part is sorted, the left one is left. -/
theorem Qs.left {w W W3 : World} {g n A B : Nat} {d : Nat → Int} {a b m : Nat} {e e2 e3 : Nat → Int} (h : Qs w W g n A B d a b e) (hp : Pm a b e e2) (hn : B ≤ n) (am : a ≤ m) (mb : m < b) (hlo : ∀ k, a ≤ k → k < m → e2 k < e2 m) (hhi : ∀ k, m < k → k < b → e2 m ≤ e2 k)
    (hr : Rw w W3 g n e3) (hp3 : Pm (m + 1) b e2 e3) (hs : Asc (m + 1) b e3) : Qs w W3 g n A B d a m e3 := by
  have h2 := h.bB; have h0 := h.aa
  have hp' : Pm a b e e3 := hp.trans (hp3.mono (by omega) (Nat.le_refl _))
  obtain ⟨q1, q2, q3, q4⟩ := h.shuffle hp' hn
  have hm : e3 m = e2 m := hp3.out m (by omega)
  have hlo3 : ∀ k, a ≤ k → k < m → e3 k < e3 m := fun k k1 k2 => by rw [hm, hp3.out k (by omega)]; exact hlo k k1 k2
  have hhi3 : ∀ k, m + 1 ≤ k → k < b → e3 m ≤ e3 k := by rw [hm]; exact hp3.all (Q := fun v => e2 m ≤ v) (fun k k1 k2 => hhi k (by omega) k2)
  refine ⟨hr, q1, q2, h0, am, by omega, fun x y hA hxy hy ho => ?_, ?_⟩
  · by_cases ho' : x < a ∨ b ≤ y
    · exact q3 x y hA hxy hy ho'
    · have x1 : a ≤ x := by omega
      have y1 : y < b := by omega
      have y2 : m ≤ y := by omega
      by_cases x2 : m + 1 ≤ x
      · exact hs x y x2 hxy y1
      · have e1 : e3 x ≤ e3 m := by
          by_cases x3 : x = m
          · rw [x3]; exact Int.le_refl _
          · exact Int.le_of_lt (hlo3 x x1 (by omega))
        by_cases y3 : y = m
        · rw [y3]; exact e1
        · exact Int.le_trans e1 (hhi3 y (by omega) y1)
  · rcases q4 with q4 | q4
    · exact .inl q4
    · exact .inr (fun k k1 k2 => q4 k k1 (by omega))

set_option maxRecDepth 100000 in
set_option maxHeartbeats 16000000 in
theorem pdq_step (N : Nat) (ih : ∀ (w : World) (g n c A B L0 : Nat) (d : Nat → Int), Rw w w g n d → Inj n d → Fl A B d → A ≤ B → B ≤ n → B ≤ A + N → L0 ≤ 100 → n < 65536 →
      Calls Tryd.prog 81 #[.slice (some ⟨g, 0, none⟩) n c, .int .i64 A, .int .i64 B, .int .i64 L0] w fun e w' => e = .returned (.tuple #[]) ∧ Hid (∃ d', Rw w w' g n d' ∧ Pm A B d d' ∧ Asc A B d'))
    (w : World) (g n c A B L0 : Nat) (d : Nat → Int) (h : Rw w w g n d) (hi : Inj n d) (hf : Fl A B d) (hAB : A ≤ B) (hb : B ≤ n) (hN : B ≤ A + (N + 1)) (hL2 : L0 ≤ 100) (hn : n < 65536) :
    Calls Tryd.prog 81 #[.slice (some ⟨g, 0, none⟩) n c, .int .i64 A, .int .i64 B, .int .i64 L0] w fun e w' => e = .returned (.tuple #[]) ∧ Hid (∃ d', Rw w w' g n d' ∧ Pm A B d d' ∧ Asc A B d') := by
  have st := Lib.hid (Qs.start h hi hf hAB)
  have REC : Hid (∀ (W : World) (a b L : Nat) (e : Nat → Int), Rw W W g n e → Inj n e → Fl a b e → a ≤ b → b ≤ n → b ≤ a + N → L ≤ 100 →
      Calls Tryd.prog 81 #[.slice (some ⟨g, 0, none⟩) n c, .int .i64 a, .int .i64 b, .int .i64 L] W fun e' w' => e' = .returned (.tuple #[]) ∧ Hid (∃ d', Rw W w' g n d' ∧ Pm a b e d' ∧ Asc a b d')) :=
    fun W a b L e h1 h2 h3 h4 h5 h6 h7 => ih W g n c a b L e h1 h2 h3 h4 h5 h6 h7 hn
  have hN' := Lib.hid hN
  clear h hi hf hN ih
  go_enter Tryd.func81, Tryd.ntmps81
  go_wp2_with (fail)
  go_loopw [1, 2, 3, 8, 9] (fun p1 p2 p3 p8 p9 wr => ∃ (a b L : Nat) (wb wp : Bool) (e : Nat → Int), p1 = .int .i64 (a : Int) ∧ p2 = .int .i64 (b : Int) ∧ p3 = .int .i64 (L : Int) ∧ p8 = .bool wb ∧ p9 = .bool wp ∧ L ≤ 100 ∧ Hid (Qs w wr g n A B d a b e)) (fun p1 p2 _ _ _ _ => (intOf p2 - intOf p1).toNat)
  case atStart => exact ⟨A, B, L0, true, true, d, rfl, rfl, rfl, rfl, rfl, hL2, st⟩
  case round =>
    obtain ⟨a, b, L, wb, wp, e, rfl, rfl, rfl, rfl, rfl, hLL, Q⟩ := hrel
    have q0 := Q.out.aa
    have q1 := Q.out.ab
    have q2 := Q.out.bB
    clear st
    by_cases hs : b ≤ a + 12
    · have dl : decide ((b : Int) - (a : Int) ≤ 12) = true := by simp; omega
      have ins := Lib.hid (insertion_any wr g n c a b e Q.out.rw.self q1 (by omega) (by omega))
      go_wp2_with (fail)
      refine ins.out.mono ?_
      rintro e1 w1 ⟨rfl, d1, hr, hp, has⟩
      have fin : Hid (∃ d', Rw w w1 g n d' ∧ Pm A B d d' ∧ Asc A B d') := ⟨d1, Q.out.done (Q.out.rw.trans hr) hp has hb⟩
      clear hr hp has
      go_wp2_with (fail)
      first | go_end0 | refine bodyPost_ret (results_none rfl _ _ _) rfl ?_
      exact ⟨rfl, fin⟩
    · have dl : decide ((b : Int) - (a : Int) ≤ 12) = false := by simp; omega
      by_cases hL0 : L = 0
      · subst hL0
        have hp0 := Lib.hid (heap_any wr g n c a b e Q.out.rw.self (by omega) (by omega) hn)
        go_wp2_with (fail)
        refine hp0.out.mono ?_
        rintro e1 w1 ⟨rfl, hd⟩
        have fin : Hid (∃ d', Rw w w1 g n d' ∧ Pm A B d d' ∧ Asc A B d') := by
          obtain ⟨d1, hr, hp, has⟩ := hd.out
          exact ⟨d1, Q.out.done (Q.out.rw.trans hr) hp has hb⟩
        clear hd hp0
        go_wp2_with (fail)
        first | go_end0 | refine bodyPost_ret (results_none rfl _ _ _) rfl ?_
        exact ⟨rfl, fin⟩
      have dz : ((L : Int) == 0) = false := by simp; omega
      go_upto_if 35 with (fail)
      go_cut [3] (fun p wx => ∃ (L2 : Nat) (e1 : Nat → Int), p = .int .i64 (L2 : Int) ∧ L2 ≤ 100 ∧ Hid (Rw wr wx g n e1 ∧ Pm a b e e1))
      case first =>
        cases wb with
        | true =>
          have f : Hid (Rw wr wr g n e ∧ Pm a b e e) := ⟨Q.out.rw.self, Pm.refl _ _ _⟩
          go_wp2_with (fail)
          go_meet
          exact ⟨L, e, rfl, hLL, f⟩
        | false =>
          have bp := Lib.hid (breakPatterns_any wr g n c a b e Q.out.rw.self (by omega) (by omega) hn)
          have EL : Hid ((L : Int) - 1 = ((L - 1 : Nat) : Int)) := show _ = _ by omega
          go_wp2_with (fail)
          refine bp.out.mono ?_
          rintro e0 w1 ⟨rfl, hd⟩
          have HD := Lib.hid hd.out
          clear hd
          go_wp2_with (fail)
          go_meet
          obtain ⟨d1, h1, h2⟩ := HD.out
          exact ⟨L - 1, d1, by rw [EL.out], by omega, h1, h2⟩
      case rest =>
        obtain ⟨L2, e1, rfl, hL3, F1⟩ := hcut
        obtain ⟨W1, hW1⟩ : ∃ W1, W1 = wc := ⟨_, rfl⟩
        rw [← hW1] at F1 ⊢
        clear hW1
        have cp := Lib.hid (choosePivot_any wr W1 g n c a b e1 F1.out.1 F1.out.1.lt (by omega) (by omega) (by omega))
        go_wp2_with (fail)
        refine cp.out.mono ?_
        rintro e0 w2 ⟨p0, k0, rfl, p01, p02, k02, R2⟩
        clear cp
        go_upto_if 50 with (fail)
        go_cut [11, 12] (fun u v wx => ∃ p k : Nat, u = .int .i64 (p : Int) ∧ v = .int .i64 (k : Int) ∧ a ≤ p ∧ p < b ∧ k ≤ 1 ∧ ∃ e2, Hid (Rw wr wx g n e2 ∧ Pm a b e e2))
        case first =>
          by_cases hk2 : k0 = 2
          · subst hk2
            have rv := Lib.hid (reverse_any w2 g n c a b e1 R2.out.self (by omega) (by omega) hn)
            obtain ⟨p, hp⟩ : ∃ p, p = (b - 1) - (p0 - a) := ⟨_, rfl⟩
            have EP : Hid ((b : Int) - 1 - ((p0 : Int) - (a : Int)) = (p : Int)) := show _ = _ by omega
            have pa : a ≤ p := by omega
            have pb : p < b := by omega
            clear hp
            go_wp2_with (fail)
            refine rv.out.mono ?_
            rintro e0 w3 ⟨rfl, hd⟩
            have HD : Hid (∃ e2, Rw wr w3 g n e2 ∧ Pm a b e e2) := by
              obtain ⟨e2, h1, h2⟩ := hd.out
              exact ⟨e2, R2.out.trans h1, F1.out.2.trans h2⟩
            clear hd rv
            go_wp2_with (fail)
            go_meet
            obtain ⟨e2, h⟩ := HD.out
            exact ⟨p, 1, by rw [EP.out], rfl, pa, pb, Nat.le_refl _, e2, h⟩
          · have dk : ((k0 : Int) == 2) = false := by simp; omega
            have f : Hid (Rw wr w2 g n e1 ∧ Pm a b e e1) := ⟨R2.out, F1.out.2⟩
            go_wp2_with (fail)
            go_meet
            exact ⟨p0, k0, rfl, rfl, p01, p02, by omega, e1, f⟩
        case rest =>
        obtain ⟨p, k, rfl, rfl, p1, p2, k2, e2, F2⟩ := hcut
        clear F1 R2
        obtain ⟨W2, hW2⟩ : ∃ W2, W2 = wc := ⟨_, rfl⟩
        rw [← hW2] at F2 ⊢
        clear hW2
        go_upto_region 15 with (fail)
        go_cut [68] (fun p wx => ∃ cc : Bool, p = .bool cc ∧ wx = W2)
        case first =>
          cases wb <;> cases wp
          all_goals
            by_cases hk : k = 1
            · subst hk
              go_wp2_with (fail)
              go_meet
              exact ⟨_, rfl, rfl⟩
            · have dk1 : ((k : Int) == 1) = false := by simp; omega
              go_wp2_with (fail)
              go_meet
              exact ⟨_, rfl, rfl⟩
        case rest =>
          obtain ⟨cc, rfl, rfl⟩ := hcut
          obtain ⟨W2, hW2⟩ : ∃ W2, W2 = wc := ⟨_, rfl⟩
          rw [← hW2] at F2 ⊢
          clear hW2
          go_upto_if 68 with (fail)
          go_cut [] (fun wx => ∃ e3, Hid (Rw wr wx g n e3 ∧ Pm a b e e3))
          case first =>
            cases cc with
            | false =>
              go_wp2_with (fail)
              go_meet
              exact ⟨e2, F2⟩
            | true =>
              have pi := Lib.hid (partialIns_any W2 g n c a b e2 F2.out.1.self (Q.out.shuffle F2.out.2 hb).2.2.2 (by omega) (by omega) hn)
              go_wp2_with (fail)
              refine pi.out.mono ?_
              rintro e0 w3 ⟨r, rfl, e3, hr1, hr2, hr3⟩
              have R3 : Hid (Rw wr w3 g n e3 ∧ Pm a b e e3) := ⟨F2.out.1.trans hr1, F2.out.2.trans hr2⟩
              have A3 := Lib.hid hr3
              clear pi hr1 hr2 hr3
              cases r with
              | true =>
                have fin : Hid (∃ d', Rw w w3 g n d' ∧ Pm A B d d' ∧ Asc A B d') := ⟨e3, Q.out.done (Q.out.rw.trans R3.out.1) R3.out.2 (A3.out rfl) hb⟩
                go_wp2_with (fail)
                first | go_end0 | refine bodyPost_ret (results_none rfl _ _ _) rfl ?_
                exact ⟨rfl, fin⟩
              | false =>
                go_wp2_with (fail)
                go_meet
                exact ⟨e3, R3⟩
          case rest =>
            obtain ⟨e3, F3⟩ := hcut
            clear F2
            obtain ⟨W3, hW3⟩ : ∃ W3, W3 = wc := ⟨_, rfl⟩
            rw [← hW3] at F3 ⊢
            clear hW3
            go_upto_region 17 with (fail)
            go_cut [87] (fun p wx => p = .bool false ∧ Hid (Rw wr wx g n e3))
            case first =>
              by_cases ha : a = 0
              · subst ha
                have out : Hid (∀ nq, Rw wr (W3.drewN nq) g n e3) := fun nq => F3.out.1.quiet ⟨nq, rfl⟩
                go_wp2_with (fail)
                go_big_quiet (first | (go_at_call 94; refine Calls.quiet_of_same (less_any _ _ _)))
                go_wp2_with (fail)
                go_meet
                exact ⟨rfl, out.out _⟩
              · obtain ⟨m, rfl⟩ : ∃ m, a = m + 1 := ⟨a - 1, by omega⟩
                have cm := F3.out.1.cell (j := m) (by omega)
                have cp := F3.out.1.cell (j := p) (by omega)
                obtain ⟨s1, s2, s3, s4⟩ := Q.out.shuffle F3.out.2 hb
                have hle : e3 m ≤ e3 p := by
                  rcases s4 with s4 | s4
                  · omega
                  · have := s4 p p1 p2
                    rwa [Nat.add_sub_cancel] at this
                have hne : e3 m ≠ e3 p := fun h => by have := s2 m p (by omega) (by omega) h; omega
                obtain ⟨x, hx⟩ : ∃ x, x = e3 m := ⟨_, rfl⟩
                obtain ⟨y, hy⟩ : ∃ y, y = e3 p := ⟨_, rfl⟩
                rw [← hx] at cm hle hne
                rw [← hy] at cp hle hne
                have d1 : decide (x < y) = true := decide_eq_true (by omega)
                have dg : decide ((0 : Int) < (m : Int) + 1) = true := decide_eq_true (by omega)
                have z0 : (m : Int) < (n : Int) := by omega
                have z1 : (p : Int) < (n : Int) := by omega
                have wm := wrapN m (by omega)
                have out : Hid (∀ nq, Rw wr (W3.drewN nq) g n e3) := fun nq => F3.out.1.quiet ⟨nq, rfl⟩
                clear s1 s2 s3 s4 hx hy hle hne
                go_wp2_with (fail)
                go_big_quiet (first | (go_at_call 94; refine Calls.quiet_of_same (less_any _ _ _)))
                go_wp2_with (fail)
                go_meet
                exact ⟨rfl, out.out _⟩
            case rest =>
              obtain ⟨rfl, R4⟩ := hcut
              obtain ⟨W4, hW4⟩ : ∃ W4, W4 = wc := ⟨_, rfl⟩
              rw [← hW4] at R4 ⊢
              clear hW4
              have P3 := Lib.hid F3.out.2
              clear F3
              have pt := Lib.hid (partition_any W4 g n c a b p e3 R4.out.self p1 p2 (by omega) (by omega))
              go_wp2_with (fail)
              refine pt.out.mono ?_
              rintro e0 w5 ⟨m, r, rfl, hP⟩
              obtain ⟨e4, PE⟩ := hP.out
              have am := PE.am
              have mb := PE.mb
              have PH := Lib.hid PE
              clear hP PE pt
              have hp2 : Hid (Pm a b e e4) := P3.out.trans PH.out.pm
              have R5 : Hid (Rw wr w5 g n e4) := R4.out.trans PH.out.rw
              have SH := Lib.hid (Q.out.shuffle hp2.out hb)
              by_cases hlr : m - a < b - m
              · have dlr : decide ((m : Int) - (a : Int) < (b : Int) - (m : Int)) = true := by simp; omega
                have rc := Lib.hid (REC.out w5 a m L2 e4 R5.out.self SH.out.2.1 (by rcases SH.out.2.2.2 with f | f; exact .inl f; exact .inr (fun k k1 k2 => f k k1 (by omega))) am (by omega) (by have := hN'.out; omega) hL3)
                go_wp2_with (fail)
                refine rc.out.mono ?_
                rintro e0 w6 ⟨rfl, hd⟩
                have fin : Hid (∃ e3, Qs w w6 g n A B d (m + 1) b e3) := by
                  obtain ⟨e5, h1, h2, h3⟩ := hd.out
                  exact ⟨e5, Q.out.right hp2.out hb am mb PH.out.lo PH.out.hi (Q.out.rw.trans (R5.out.trans h1)) h2 h3⟩
                clear hd rc
                go_wp2_with (fail)
                go_roundw
                case rel => obtain ⟨e3, hq⟩ := fin.out; exact ⟨m + 1, b, L2, _, r, e3, by go_num, rfl, rfl, rfl, rfl, hL3, hq⟩
                case measure => first | (simp [intOf]; done) | (simp [intOf]; omega)
              · have dlr : decide ((m : Int) - (a : Int) < (b : Int) - (m : Int)) = false := by simp; omega
                have EM : Hid ((m : Int) + 1 = ((m + 1 : Nat) : Int)) := show _ = _ by omega
                have rc := Lib.hid (REC.out w5 (m + 1) b L2 e4 R5.out.self SH.out.2.1 (.inr (fun k k1 k2 => by rw [Nat.add_sub_cancel]; exact PH.out.hi k (by omega) k2)) (by omega) (by omega) (by have := hN'.out; omega) hL3)
                rw [← EM.out] at rc
                go_wp2_with (fail)
                refine rc.out.mono ?_
                rintro e0 w6 ⟨rfl, hd⟩
                have fin : Hid (∃ e3, Qs w w6 g n A B d a m e3) := by
                  obtain ⟨e5, h1, h2, h3⟩ := hd.out
                  exact ⟨e5, Q.out.left hp2.out hb am mb PH.out.lo PH.out.hi (Q.out.rw.trans (R5.out.trans h1)) h2 h3⟩
                clear hd rc
                go_wp2_with (fail)
                go_roundw
                case rel => obtain ⟨e3, hq⟩ := fin.out; exact ⟨a, m, L2, _, r, e3, rfl, rfl, rfl, rfl, rfl, hL3, hq⟩
                case measure => first | (simp [intOf]; done) | (simp [intOf]; omega)

theorem pdq_all (N : Nat) : ∀ (w : World) (g n c A B L0 : Nat) (d : Nat → Int), Rw w w g n d → Inj n d → Fl A B d → A ≤ B → B ≤ n → B ≤ A + N → L0 ≤ 100 → n < 65536 →
      Calls Tryd.prog 81 #[.slice (some ⟨g, 0, none⟩) n c, .int .i64 A, .int .i64 B, .int .i64 L0] w fun e w' => e = .returned (.tuple #[]) ∧ Hid (∃ d', Rw w w' g n d' ∧ Pm A B d d' ∧ Asc A B d') := by
  induction N with
  | zero => intro w g n c A B L0 d h hi hf hAB hb hN hL2 hn; exact pdq_small w g n c A B L0 d h hAB (by omega) hb (by omega)
  | succ N ih => intro w g n c A B L0 d h hi hf hAB hb hN hL2 hn; exact pdq_step N ih w g n c A B L0 d h hi hf hAB hb hN hL2 hn

/-- How long a row the sort is proved for. -/
def sortMax : Nat := 60000

set_option maxRecDepth 100000 in
set_option maxHeartbeats 4000000 in
theorem sort_any (w : World) (g n c : Nat) (d : Nat → Int) (h : Rw w w g n d) (hi : Inj n d) (hn : n ≤ sortMax) :
    Calls Tryd.prog 68 #[.slice (some ⟨g, 0, none⟩) n c] w fun e w' => e = .returned (.tuple #[]) ∧ Hid (∃ d', Rw w w' g n d' ∧ Pm 0 n d d' ∧ Asc 0 n d') := by
  have hnn : n ≤ 60000 := hn
  have pq : Hid (∀ L : Nat, L ≤ 16 → Calls Tryd.prog 81 #[.slice (some ⟨g, 0, none⟩) n c, .int .i64 0, .int .i64 (n : Int), .int .i64 (L : Int)] w fun e w' => e = .returned (.tuple #[]) ∧ Hid (∃ d', Rw w w' g n d' ∧ Pm 0 n d d' ∧ Asc 0 n d')) :=
    fun L hL => pdq_all n w g n c 0 n L d h hi (.inl rfl) (Nat.zero_le _) (Nat.le_refl _) (by omega) (by omega) (by omega)
  have wu : IntKind.u64.wrap (n : Int) = (n : Int) := by simp [IntKind.wrap, IntKind.bits, IntKind.signed]; omega
  have l0 : (0 : Int) ≤ (n : Int) := by omega
  have l1 : (n : Int) < 65536 := by omega
  clear h hi
  go_enter Tryd.func68, Tryd.ntmps68
  go_wp2_with (first | (go_at_call 58; refine (len_any _ _ l0 l1).mono ?_; rintro e w1 ⟨⟨L, rfl, hL, hp⟩, rfl⟩; clear hp) | (go_at_call 81; refine (pq.out L hL).mono ?_; rintro e w1 ⟨rfl, hd⟩))
  first | go_end0 | refine bodyPost_ret (results_none rfl _ _ _) rfl ?_
  exact ⟨rfl, hd⟩
end Go.Proofs.YtabeljpnmmfpgaaDoor
