/-
  Same: of one list of words, told twice.
-/
import Derived.Laws.StructEq
import Derived.BigQuiet
import Derived.Test.YtabeljpnmmfpgaaDoorFlPln
namespace Go.Proofs.YtabeljpnmmfpgaaDoor
open Go.RowKit Go.MapKept Go.Maps Go.Sort
set_option linter.unusedVariables false
set_option linter.unusedSimpArgs false

set_option maxRecDepth 100000 in
set_option maxHeartbeats 4000000 in
theorem same_any (w : World) (A B : Option Addr) (c d : Nat) (l : List FW) (h : FWin w A l) (h2 : FWin w B l) (hl : l.length ≤ 20000) :
    Calls Tryd.prog 13 #[.slice A l.length c, .slice B l.length d] w fun e w' => e = .returned (.bool true) ∧ Below w.heap.size w w' := by
  have HA := Lib.hid h
  have HB := Lib.hid h2
  obtain ⟨n, hn⟩ : ∃ n, n = l.length := ⟨_, rfl⟩
  rw [← hn] at hl ⊢
  have HN := Lib.hid hn
  clear h h2 hn
  go_enter Tryd.func13, Tryd.ntmps13
  go_wp2_with (fail)
  go_loopw [5] (fun i wr => ∃ k : Nat, k ≤ n ∧ i = .int .i64 k ∧ Hid (Below w.heap.size w wr)) (fun i _ => n - (intOf i).toNat)
  case atStart => exact ⟨0, Nat.zero_le _, rfl, Lib.hid (Below.refl _ _)⟩
  case round =>
    obtain ⟨k, hk, rfl, hw⟩ := hrel
    by_cases hlt : k < n
    · have hkl : k < l.length := by rw [← HN.out]; exact hlt
      obtain ⟨b1, o1, ia1, ic1, ca1, cc1, rfl, q1⟩ := HA.out k hkl
      obtain ⟨b2, o2, ia2, ic2, ca2, cc2, rfl, q2⟩ := HB.out k hkl
      have Q1 := Lib.hid (q1.below hw.out)
      have Q2 := Lib.hid (q2.below hw.out)
      obtain ⟨x, hx⟩ : ∃ x, x = l[k] := ⟨_, rfl⟩
      rw [← hx] at Q1 Q2
      obtain ⟨a, ha⟩ : ∃ a, a = x.at_ := ⟨_, rfl⟩
      obtain ⟨m, hm⟩ : ∃ m, m = x.instrs.length := ⟨_, rfl⟩
      obtain ⟨p, hp⟩ : ∃ p, p = x.calls.length := ⟨_, rfl⟩
      have c0 := Q1.out.c0
      have c1 := Q1.out.c1
      have c2 := Q1.out.c2
      have d0 := Q2.out.c0
      have d1 := Q2.out.c1
      have d2 := Q2.out.c2
      have hml := Q1.out.ins.len
      have hpl := Q1.out.small
      rw [← ha] at c0 d0
      rw [← hm] at c1 d1 hml
      rw [← hp] at c2 d2 hpl
      have HM := Lib.hid hm
      have HP := Lib.hid hp
      have I1 := Lib.hid Q1.out.ins
      have I2 := Lib.hid Q2.out.ins
      have K1 := Lib.hid Q1.out.calls
      have K2 := Lib.hid Q2.out.calls
      have hkn : (k : Int) < (n : Int) := by omega
      obtain ⟨wa, hwa⟩ : ∃ wa, wa = wr := ⟨_, rfl⟩
      subst hwa
      clear hx ha hm hp q1 q2 Q1 Q2
      have NX : Hid (∀ nq, Below wa.heap.size wa (wa.drewN nq)) := fun nq => b_drewN (Below.refl _ _) nq
      go_wp2_with (fail)
      go_quiet (fail)
      have NX0 := Lib.hid (NX.out nq)
      obtain ⟨wb, hwb⟩ : ∃ wb, wb = wa.drewN nq := ⟨_, rfl⟩
      rw [← hwb] at NX0 ⊢
      clear hwb NX
      have c1' := keep_cell c1 NX0.out
      have d1' := keep_cell d1 NX0.out
      have c2' := keep_cell c2 NX0.out
      have d2' := keep_cell d2 NX0.out
      clear c0 c1 c2 d0 d1 d2
      go_wp2_with (fail)
      go_loopw [6] (fun i wr => ∃ j : Nat, j ≤ m ∧ i = .int .i64 j ∧ Hid (Below wb.heap.size wb wr)) (fun i _ => m - (intOf i).toNat)
      case atStart => exact ⟨0, Nat.zero_le _, rfl, Lib.hid (Below.refl _ _)⟩
      case round =>
        obtain ⟨j, hj, rfl, hq⟩ := hrel
        have c1 := keep_cell c1' hq.out
        have d1 := keep_cell d1' hq.out
        by_cases hjm : j < m
        · have hjl : j < x.instrs.length := by rw [← HM.out]; exact hjm
          obtain ⟨b3, o3, rfl, e0, e1, e2, e3, e4⟩ := I1.out.at_ j hjl
          obtain ⟨b4, o4, rfl, f0, f1, f2, f3, f4⟩ := I2.out.at_ j hjl
          have e0 := keep_cell (keep_cell e0 NX0.out) hq.out
          have e1 := keep_cell (keep_cell e1 NX0.out) hq.out
          have e2 := keep_cell (keep_cell e2 NX0.out) hq.out
          have e3 := keep_cell (keep_cell e3 NX0.out) hq.out
          have e4 := keep_cell (keep_cell e4 NX0.out) hq.out
          have f0 := keep_cell (keep_cell f0 NX0.out) hq.out
          have f1 := keep_cell (keep_cell f1 NX0.out) hq.out
          have f2 := keep_cell (keep_cell f2 NX0.out) hq.out
          have f3 := keep_cell (keep_cell f3 NX0.out) hq.out
          have f4 := keep_cell (keep_cell f4 NX0.out) hq.out
          obtain ⟨q, hq'⟩ : ∃ q, q = x.instrs[j] := ⟨_, rfl⟩
          rw [← hq'] at e0 e1 e2 e3 e4 f0 f1 f2 f3 f4
          clear hq'
          have hjm2 : (j : Int) < (m : Int) := by omega
          have NX1 : Hid (∀ nq, Below wb.heap.size wb (wr.drewN nq)) := fun nq => b_drewN hq.out nq
          go_wp2_with (fail)
          go_quiet (fail)
          go_wp2_with (fail)
          go_roundw
          case rel => exact ⟨j + 1, hjm, by go_num, NX1.out nq⟩
          case measure => first | (simp [intOf]; done) | (simp [intOf]; omega)
        · have hjm2 : ¬ (j : Int) < (m : Int) := by omega
          have c2 := keep_cell c2' hq.out
          have d2 := keep_cell d2' hq.out
          have NX1 := Lib.hid hq.out
          obtain ⟨wd, hwd⟩ : ∃ wd, wd = wr := ⟨_, rfl⟩
          subst hwd
          clear c2' d2' c1' d1' hq
          go_wp2_with (fail)
          go_loopw [7] (fun i wr => ∃ j : Nat, j ≤ p ∧ i = .int .i64 j ∧ Hid (Below wd.heap.size wd wr)) (fun i _ => p - (intOf i).toNat)
          case atStart => exact ⟨0, Nat.zero_le _, rfl, Lib.hid (Below.refl _ _)⟩
          case round =>
            obtain ⟨j3, hj3, rfl, hq⟩ := hrel
            have c3 := keep_cell c2 hq.out
            have d3 := keep_cell d2 hq.out
            by_cases hjp : j3 < p
            · have hjl : j3 < x.calls.length := by rw [← HP.out]; exact hjp
              obtain ⟨b3, o3, rfl, e0⟩ := K1.out.at_ j3 hjl
              obtain ⟨b4, o4, rfl, f0⟩ := K2.out.at_ j3 hjl
              have e0 := keep_cell (keep_cell (keep_cell e0 NX0.out) NX1.out) hq.out
              have f0 := keep_cell (keep_cell (keep_cell f0 NX0.out) NX1.out) hq.out
              obtain ⟨q, hq'⟩ : ∃ q, q = x.calls[j3] := ⟨_, rfl⟩
              rw [← hq'] at e0 f0
              clear hq'
              have hjp2 : (j3 : Int) < (p : Int) := by omega
              have NX2 : Hid (∀ nq, Below wd.heap.size wd (wr.drewN nq)) := fun nq => b_drewN hq.out nq
              go_wp2_with (fail)
              go_quiet (fail)
              go_wp2_with (fail)
              go_roundw
              case rel => exact ⟨j3 + 1, hjp, by go_num, NX2.out nq⟩
              case measure => first | (simp [intOf]; done) | (simp [intOf]; omega)
            · have hjp2 : ¬ (j3 : Int) < (p : Int) := by omega
              have FN := Lib.hid (b_then (b_then (b_then hw.out NX0.out) NX1.out) hq.out)
              go_wp2_with (fail)
              go_roundw
              case rel => exact ⟨k + 1, hlt, by go_num, FN⟩
              case measure => first | (simp [intOf]; done) | (simp [intOf]; omega)
    · have hkn : ¬ (k : Int) < (n : Int) := by omega
      go_wp2_with (fail)
      go_ret
      exact ⟨rfl, hw.out⟩
end Go.Proofs.YtabeljpnmmfpgaaDoor
