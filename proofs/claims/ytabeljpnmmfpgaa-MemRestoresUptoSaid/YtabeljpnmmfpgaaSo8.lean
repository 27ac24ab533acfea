/-
  Sorting a row of bytes, 8: pdqsort of at most 16 different elements, walked.
-/
import Derived.Test.YtabeljpnmmfpgaaSo7
namespace Go.Proofs.Ytabeljpnmmfpgaa
open Go.RowKit Go.MapKept
set_option linter.unusedVariables false
set_option linter.unusedSimpArgs false

theorem Rw.self {w W : World} {g n : Nat} {d : Nat → Int} (h : Rw w W g n d) : Rw W W g n d := ⟨Upd.refl _ _, h.row⟩

set_option maxRecDepth 100000 in
set_option maxHeartbeats 16000000 in
theorem pdq_any (w : World) (g n c B L0 : Nat) (d : Nat → Int) (h : Rw w w g n d) (hi : Inj n d) (h16 : B ≤ 16) (hL : B ≤ 11 + L0) (hL2 : L0 ≤ 100) (hb : B ≤ n) (hn : n ≤ 1000000000) :
    Calls Try.prog 60 #[.slice (some ⟨g, 0, none⟩) n c, .int .i64 0, .int .i64 B, .int .i64 L0] w fun e w' => e = .returned (.tuple #[]) ∧ Hid (∃ d', Rw w w' g n d' ∧ Pm 0 B d d' ∧ Asc 0 B d') := by
  have st := Lib.hid (Qs.start h hi h16 hL)
  clear h hi
  go_enter Try.func60, Try.ntmps60
  go_wp2_with (fail)
  go_loopw [1, 2, 3, 8, 9] (fun p1 p2 p3 p8 p9 wr => ∃ (a b L : Nat) (wb wp : Bool) (e : Nat → Int), p1 = .int .i64 (a : Int) ∧ p2 = .int .i64 (b : Int) ∧ p3 = .int .i64 (L : Int) ∧ p8 = .bool wb ∧ p9 = .bool wp ∧ L ≤ 100 ∧ Hid (Qs w wr g n B d a b L e)) (fun p1 p2 _ _ _ _ => (intOf p2 - intOf p1).toNat)
  case atStart => exact ⟨0, B, L0, true, true, d, rfl, rfl, rfl, rfl, rfl, hL2, st⟩
  case round =>
    obtain ⟨a, b, L, wb, wp, e, rfl, rfl, rfl, rfl, rfl, hLL, Q⟩ := hrel
    have q1 := Q.out.ab
    have q2 := Q.out.bB
    have q3 := Q.out.len
    have q4 := Q.out.lim
    clear st
    by_cases hs : b ≤ a + 12
    · have dl : decide ((b : Int) - (a : Int) ≤ 12) = true := by simp; omega
      have ins := Lib.hid (insertion_any wr g n c a b e Q.out.rw.self q1 (by omega) hn)
      go_wp2_with (fail)
      refine ins.out.mono ?_
      rintro e1 w1 ⟨rfl, d1, hr, hp, has⟩
      have fin : Hid (∃ d', Rw w w1 g n d' ∧ Pm 0 B d d' ∧ Asc 0 B d') := ⟨d1, Q.out.done (Q.out.rw.trans hr) hp has hb⟩
      clear hr hp has
      go_wp2_with (fail)
      first | go_end0 | refine bodyPost_ret (results_none rfl _ _ _) rfl ?_
      exact ⟨rfl, fin⟩
    · have dl : decide ((b : Int) - (a : Int) ≤ 12) = false := by simp; omega
      have dz : ((L : Int) == 0) = false := by simp; omega
      go_upto_if 35 with (fail)
      go_cut [3] (fun p wx => ∃ (L2 : Nat) (e1 : Nat → Int), p = .int .i64 (L2 : Int) ∧ L2 ≤ 100 ∧ L ≤ L2 + 1 ∧ Hid (Rw wr wx g n e1 ∧ Pm a b e e1))
      case first =>
        cases wb with
        | true =>
          have f : Hid (Rw wr wr g n e ∧ Pm a b e e) := ⟨Q.out.rw.self, Pm.refl _ _ _⟩
          go_wp2_with (fail)
          go_meet
          exact ⟨L, e, rfl, hLL, by omega, f⟩
        | false =>
          have bp := Lib.hid (breakPatterns_any wr g n c a b e Q.out.rw.self (by omega) (by omega) (by omega) hn)
          have EL : Hid ((L : Int) - 1 = ((L - 1 : Nat) : Int)) := show _ = _ by omega
          go_wp2_with (fail)
          refine bp.out.mono ?_
          rintro e0 w1 ⟨rfl, hd⟩
          have HD := Lib.hid hd.out
          clear hd
          go_wp2_with (fail)
          go_meet
          obtain ⟨d1, h1, h2⟩ := HD.out
          exact ⟨L - 1, d1, by rw [EL.out], by omega, by omega, h1, h2⟩
      case rest =>
        obtain ⟨L2, e1, rfl, hL3, hL4, F1⟩ := hcut
        obtain ⟨W1, hW1⟩ : ∃ W1, W1 = wc := ⟨_, rfl⟩
        rw [← hW1] at F1 ⊢
        clear hW1
        have cp := Lib.hid (choosePivot_any wr W1 g n c a b e1 F1.out.1 F1.out.1.lt (by omega) (by omega) (by omega) hn)
        go_wp2_with (fail)
        refine cp.out.mono ?_
        rintro e0 w2 ⟨p, k, rfl, p1, p2, k2, R2⟩
        clear cp
        have dk : ((k : Int) == 2) = false := by simp; omega
        go_upto_region 15 with (fail)
        go_cut [68] (fun p wx => ∃ cc : Bool, p = .bool cc ∧ wx = w2)
        case first =>
          cases wb <;> cases wp
          all_goals
            by_cases hk : k = 1
            · subst hk
              go_wp2_with (fail)
              go_meet
              exact ⟨_, rfl, rfl⟩
            · have dk1 : ((k : Int) == 1) = false := by simp; omega
              go_wp2_with (fail)
              go_meet
              exact ⟨_, rfl, rfl⟩
        case rest =>
          obtain ⟨cc, rfl, rfl⟩ := hcut
          obtain ⟨W2, hW2⟩ : ∃ W2, W2 = wc := ⟨_, rfl⟩
          rw [← hW2] at R2 ⊢
          clear hW2
          go_upto_if 68 with (fail)
          go_cut [] (fun wx => Hid (Rw wr wx g n e1))
          case first =>
            cases cc with
            | false =>
              go_wp2_with (fail)
              go_meet
              exact R2
            | true =>
              have pi := Lib.hid (partialIns_any W2 g n c a b e1 R2.out.self (by omega) (by omega) (by omega) hn)
              go_wp2_with (fail)
              refine pi.out.mono ?_
              rintro e0 w3 ⟨r, rfl, hr1, hr2⟩
              have R3 : Hid (Rw wr w3 g n e1) := R2.out.trans hr2.out
              clear pi
              cases r with
              | true =>
                have fin : Hid (∃ d', Rw w w3 g n d' ∧ Pm 0 B d d' ∧ Asc 0 B d') := ⟨e1, Q.out.done (Q.out.rw.trans R3.out) F1.out.2 (hr1.out rfl) hb⟩
                go_wp2_with (fail)
                first | go_end0 | refine bodyPost_ret (results_none rfl _ _ _) rfl ?_
                exact ⟨rfl, fin⟩
              | false =>
                go_wp2_with (fail)
                go_meet
                exact R3
          case rest =>
            obtain ⟨W3, hW3⟩ : ∃ W3, W3 = wc := ⟨_, rfl⟩
            have R3 : Hid (Rw wr W3 g n e1) := by rw [hW3]; exact hcut
            rw [← hW3]
            clear hW3 hcut R2
            go_upto_region 17 with (fail)
            go_cut [87] (fun p wx => p = .bool false ∧ Hid (Rw wr wx g n e1))
            case first =>
              by_cases ha : a = 0
              · subst ha
                have out : Hid (∀ nq, Rw wr (W3.drewN nq) g n e1) := fun nq => R3.out.quiet ⟨nq, rfl⟩
                go_wp2_with (fail)
                go_big_quiet (first | (go_at_call 68; refine Calls.quiet_of_same (less_any _ _ _)))
                go_wp2_with (fail)
                go_meet
                exact ⟨rfl, out.out _⟩
              · obtain ⟨m, rfl⟩ : ∃ m, a = m + 1 := ⟨a - 1, by omega⟩
                have cm := R3.out.cell (j := m) (by omega)
                have cp := R3.out.cell (j := p) (by omega)
                obtain ⟨s1, s2, s3⟩ := Q.out.shuffle (L' := L2) (Q.out.rw.trans R3.out) F1.out.2 hb (by omega)
                have hle := s3 m p (by omega) (by omega) (.inl (by omega))
                have hne : e1 m ≠ e1 p := fun h => by have := s2 m p (by omega) (by omega) h; omega
                obtain ⟨x, hx⟩ : ∃ x, x = e1 m := ⟨_, rfl⟩
                obtain ⟨y, hy⟩ : ∃ y, y = e1 p := ⟨_, rfl⟩
                rw [← hx] at cm hle hne
                rw [← hy] at cp hle hne
                have d1 : decide (x < y) = true := decide_eq_true (by omega)
                have dg : decide ((0 : Int) < (m : Int) + 1) = true := decide_eq_true (by omega)
                have z0 : (m : Int) < (n : Int) := by omega
                have z1 : (p : Int) < (n : Int) := by omega
                have wm := wrapN m (by omega)
                have out : Hid (∀ nq, Rw wr (W3.drewN nq) g n e1) := fun nq => R3.out.quiet ⟨nq, rfl⟩
                clear s1 s2 s3 hx hy hle hne
                go_wp2_with (fail)
                go_big_quiet (first | (go_at_call 68; refine Calls.quiet_of_same (less_any _ _ _)))
                go_wp2_with (fail)
                go_meet
                exact ⟨rfl, out.out _⟩
            case rest =>
              obtain ⟨rfl, R4⟩ := hcut
              obtain ⟨W4, hW4⟩ : ∃ W4, W4 = wc := ⟨_, rfl⟩
              rw [← hW4] at R4 ⊢
              clear hW4 R3
              have pt := Lib.hid (partition_any W4 g n c a b p e1 R4.out.self p1 p2 (by omega) hn)
              go_wp2_with (fail)
              refine pt.out.mono ?_
              rintro e0 w5 ⟨m, r, rfl, hP⟩
              obtain ⟨e2, PE⟩ := hP.out
              have am := PE.am
              have mb := PE.mb
              have PH := Lib.hid PE
              clear hP PE pt
              have hp2 : Hid (Pm a b e e2) := F1.out.2.trans PH.out.pm
              have R5 : Hid (Rw wr w5 g n e2) := R4.out.trans PH.out.rw
              by_cases hlr : m - a < b - m
              · have dlr : decide ((m : Int) - (a : Int) < (b : Int) - (m : Int)) = true := by simp; omega
                have rc := Lib.hid (pdq_small w5 g n c a m L2 e2 R5.out.self am (by omega) (by omega) hn)
                go_wp2_with (fail)
                refine rc.out.mono ?_
                rintro e0 w6 ⟨rfl, hd⟩
                have fin : Hid (∃ e3, Qs w w6 g n B d (m + 1) b L2 e3) := by
                  obtain ⟨e3, h1, h2, h3⟩ := hd.out
                  exact ⟨e3, Q.out.right (W2 := w5) hp2.out hb am mb PH.out.lo PH.out.hi (Q.out.rw.trans (R5.out.trans h1)) h2 h3 (by omega)⟩
                clear hd rc
                go_wp2_with (fail)
                go_roundw
                case rel => obtain ⟨e3, hq⟩ := fin.out; exact ⟨m + 1, b, L2, _, r, e3, by go_num, rfl, rfl, rfl, rfl, hL3, hq⟩
                case measure => first | (simp [intOf]; done) | (simp [intOf]; omega)
              · have dlr : decide ((m : Int) - (a : Int) < (b : Int) - (m : Int)) = false := by simp; omega
                have EM : Hid ((m : Int) + 1 = ((m + 1 : Nat) : Int)) := show _ = _ by omega
                have rc := Lib.hid (pdq_small w5 g n c (m + 1) b L2 e2 R5.out.self (by omega) (by omega) (by omega) hn)
                rw [← EM.out] at rc
                go_wp2_with (fail)
                refine rc.out.mono ?_
                rintro e0 w6 ⟨rfl, hd⟩
                have fin : Hid (∃ e3, Qs w w6 g n B d a m L2 e3) := by
                  obtain ⟨e3, h1, h2, h3⟩ := hd.out
                  exact ⟨e3, Q.out.left (W2 := w5) hp2.out hb am mb PH.out.lo PH.out.hi (Q.out.rw.trans (R5.out.trans h1)) h2 h3 (by omega)⟩
                clear hd rc
                go_wp2_with (fail)
                go_roundw
                case rel => obtain ⟨e3, hq⟩ := fin.out; exact ⟨a, m, L2, _, r, e3, rfl, rfl, rfl, rfl, rfl, hL3, hq⟩
                case measure => first | (simp [intOf]; done) | (simp [intOf]; omega)
end Go.Proofs.Ytabeljpnmmfpgaa
