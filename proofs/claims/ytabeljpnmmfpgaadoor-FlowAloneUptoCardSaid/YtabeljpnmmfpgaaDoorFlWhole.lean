/-
  Same: of one list of words, told twice.
  whole: what Words laid is still as it was, the marks too.
-/
import Derived.Laws.StructEq
import Derived.BigQuiet
import Derived.Test.YtabeljpnmmfpgaaDoorFlPln
namespace Go.Proofs.YtabeljpnmmfpgaaDoor
open Go.RowKit Go.MapKept Go.Maps Go.Sort
set_option linter.unusedVariables false
set_option linter.unusedSimpArgs false

set_option maxRecDepth 100000 in
set_option maxHeartbeats 4000000 in
theorem same_any (w : World) (A B : Option Addr) (c d : Nat) (l : List FW) (h : FWin w A l) (h2 : FWin w B l) (hl : l.length ≤ 20000) :
    Calls Tryd.prog 13 #[.slice A l.length c, .slice B l.length d] w fun e w' => e = .returned (.bool true) ∧ Below w.heap.size w w' := by
  have HA := Lib.hid h
  have HB := Lib.hid h2
  obtain ⟨n, hn⟩ : ∃ n, n = l.length := ⟨_, rfl⟩
  rw [← hn] at hl ⊢
  have HN := Lib.hid hn
  clear h h2 hn
  go_enter Tryd.func13, Tryd.ntmps13
  go_wp2_with (fail)
  go_loopw [5] (fun i wr => ∃ k : Nat, k ≤ n ∧ i = .int .i64 k ∧ Hid (Below w.heap.size w wr)) (fun i _ => n - (intOf i).toNat)
  case atStart => exact ⟨0, Nat.zero_le _, rfl, Lib.hid (Below.refl _ _)⟩
  case round =>
    obtain ⟨k, hk, rfl, hw⟩ := hrel
    by_cases hlt : k < n
    · have hkl : k < l.length := by rw [← HN.out]; exact hlt
      obtain ⟨b1, o1, ia1, ic1, ca1, cc1, rfl, q1⟩ := HA.out k hkl
      obtain ⟨b2, o2, ia2, ic2, ca2, cc2, rfl, q2⟩ := HB.out k hkl
      have Q1 := Lib.hid (q1.below hw.out)
      have Q2 := Lib.hid (q2.below hw.out)
      obtain ⟨x, hx⟩ : ∃ x, x = l[k] := ⟨_, rfl⟩
      rw [← hx] at Q1 Q2
      obtain ⟨a, ha⟩ : ∃ a, a = x.at_ := ⟨_, rfl⟩
      obtain ⟨m, hm⟩ : ∃ m, m = x.instrs.length := ⟨_, rfl⟩
      obtain ⟨p, hp⟩ : ∃ p, p = x.calls.length := ⟨_, rfl⟩
      have c0 := Q1.out.c0
      have c1 := Q1.out.c1
      have c2 := Q1.out.c2
      have d0 := Q2.out.c0
      have d1 := Q2.out.c1
      have d2 := Q2.out.c2
      have hml := Q1.out.ins.len
      have hpl := Q1.out.small
      rw [← ha] at c0 d0
      rw [← hm] at c1 d1 hml
      rw [← hp] at c2 d2 hpl
      have HM := Lib.hid hm
      have HP := Lib.hid hp
      have I1 := Lib.hid Q1.out.ins
      have I2 := Lib.hid Q2.out.ins
      have K1 := Lib.hid Q1.out.calls
      have K2 := Lib.hid Q2.out.calls
      have hkn : (k : Int) < (n : Int) := by omega
      obtain ⟨wa, hwa⟩ : ∃ wa, wa = wr := ⟨_, rfl⟩
      subst hwa
      clear hx ha hm hp q1 q2 Q1 Q2
      have NX : Hid (∀ nq, Below wa.heap.size wa (wa.drewN nq)) := fun nq => b_drewN (Below.refl _ _) nq
      go_wp2_with (fail)
      go_quiet (fail)
      have NX0 := Lib.hid (NX.out nq)
      obtain ⟨wb, hwb⟩ : ∃ wb, wb = wa.drewN nq := ⟨_, rfl⟩
      rw [← hwb] at NX0 ⊢
      clear hwb NX
      have c1' := keep_cell c1 NX0.out
      have d1' := keep_cell d1 NX0.out
      have c2' := keep_cell c2 NX0.out
      have d2' := keep_cell d2 NX0.out
      clear c0 c1 c2 d0 d1 d2
      go_wp2_with (fail)
      go_loopw [6] (fun i wr => ∃ j : Nat, j ≤ m ∧ i = .int .i64 j ∧ Hid (Below wb.heap.size wb wr)) (fun i _ => m - (intOf i).toNat)
      case atStart => exact ⟨0, Nat.zero_le _, rfl, Lib.hid (Below.refl _ _)⟩
      case round =>
        obtain ⟨j, hj, rfl, hq⟩ := hrel
        have c1 := keep_cell c1' hq.out
        have d1 := keep_cell d1' hq.out
        by_cases hjm : j < m
        · have hjl : j < x.instrs.length := by rw [← HM.out]; exact hjm
          obtain ⟨b3, o3, rfl, e0, e1, e2, e3, e4⟩ := I1.out.at_ j hjl
          obtain ⟨b4, o4, rfl, f0, f1, f2, f3, f4⟩ := I2.out.at_ j hjl
          have e0 := keep_cell (keep_cell e0 NX0.out) hq.out
          have e1 := keep_cell (keep_cell e1 NX0.out) hq.out
          have e2 := keep_cell (keep_cell e2 NX0.out) hq.out
          have e3 := keep_cell (keep_cell e3 NX0.out) hq.out
          have e4 := keep_cell (keep_cell e4 NX0.out) hq.out
          have f0 := keep_cell (keep_cell f0 NX0.out) hq.out
          have f1 := keep_cell (keep_cell f1 NX0.out) hq.out
          have f2 := keep_cell (keep_cell f2 NX0.out) hq.out
          have f3 := keep_cell (keep_cell f3 NX0.out) hq.out
          have f4 := keep_cell (keep_cell f4 NX0.out) hq.out
          obtain ⟨q, hq'⟩ : ∃ q, q = x.instrs[j] := ⟨_, rfl⟩
          rw [← hq'] at e0 e1 e2 e3 e4 f0 f1 f2 f3 f4
          clear hq'
          have hjm2 : (j : Int) < (m : Int) := by omega
          have NX1 : Hid (∀ nq, Below wb.heap.size wb (wr.drewN nq)) := fun nq => b_drewN hq.out nq
          go_wp2_with (fail)
          go_quiet (fail)
          go_wp2_with (fail)
          go_roundw
          case rel => exact ⟨j + 1, hjm, by go_num, NX1.out nq⟩
          case measure => first | (simp [intOf]; done) | (simp [intOf]; omega)
        · have hjm2 : ¬ (j : Int) < (m : Int) := by omega
          have c2 := keep_cell c2' hq.out
          have d2 := keep_cell d2' hq.out
          have NX1 := Lib.hid hq.out
          obtain ⟨wd, hwd⟩ : ∃ wd, wd = wr := ⟨_, rfl⟩
          subst hwd
          clear c2' d2' c1' d1' hq
          go_wp2_with (fail)
          go_loopw [7] (fun i wr => ∃ j : Nat, j ≤ p ∧ i = .int .i64 j ∧ Hid (Below wd.heap.size wd wr)) (fun i _ => p - (intOf i).toNat)
          case atStart => exact ⟨0, Nat.zero_le _, rfl, Lib.hid (Below.refl _ _)⟩
          case round =>
            obtain ⟨j3, hj3, rfl, hq⟩ := hrel
            have c3 := keep_cell c2 hq.out
            have d3 := keep_cell d2 hq.out
            by_cases hjp : j3 < p
            · have hjl : j3 < x.calls.length := by rw [← HP.out]; exact hjp
              obtain ⟨b3, o3, rfl, e0⟩ := K1.out.at_ j3 hjl
              obtain ⟨b4, o4, rfl, f0⟩ := K2.out.at_ j3 hjl
              have e0 := keep_cell (keep_cell (keep_cell e0 NX0.out) NX1.out) hq.out
              have f0 := keep_cell (keep_cell (keep_cell f0 NX0.out) NX1.out) hq.out
              obtain ⟨q, hq'⟩ : ∃ q, q = x.calls[j3] := ⟨_, rfl⟩
              rw [← hq'] at e0 f0
              clear hq'
              have hjp2 : (j3 : Int) < (p : Int) := by omega
              have NX2 : Hid (∀ nq, Below wd.heap.size wd (wr.drewN nq)) := fun nq => b_drewN hq.out nq
              go_wp2_with (fail)
              go_quiet (fail)
              go_wp2_with (fail)
              go_roundw
              case rel => exact ⟨j3 + 1, hjp, by go_num, NX2.out nq⟩
              case measure => first | (simp [intOf]; done) | (simp [intOf]; omega)
            · have hjp2 : ¬ (j3 : Int) < (p : Int) := by omega
              have FN := Lib.hid (b_then (b_then (b_then hw.out NX0.out) NX1.out) hq.out)
              go_wp2_with (fail)
              go_roundw
              case rel => exact ⟨k + 1, hlt, by go_num, FN⟩
              case measure => first | (simp [intOf]; done) | (simp [intOf]; omega)
    · have hkn : ¬ (k : Int) < (n : Int) := by omega
      go_wp2_with (fail)
      go_ret
      exact ⟨rfl, hw.out⟩
end Go.Proofs.YtabeljpnmmfpgaaDoor

namespace Go.Proofs.YtabeljpnmmfpgaaDoor
open Go.RowKit Go.MapKept Go.Maps Go.Sort
set_option linter.unusedVariables false
set_option linter.unusedSimpArgs false

/-- All words as Words laid them. -/
structure CvAll (W : World) (base g cap : Nat) (ts : List WT) (ws : List FW) : Prop where
  len : ts.length = ws.length
  row : W.ownsRow base 53 3 (.slice (some ⟨g, 0, none⟩) (ws.length + 1) cap) (ws.length + 1) (ts.flatMap WT.cells ++ [.int .u16 7777, .slice none 0 0, .slice none 0 0])
  rep : ∀ (i : Nat) (h1 : i < ts.length) (h2 : i < ws.length), CvW W base ts[i] ws[i]
theorem CvAll.below {w W : World} {base g cap : Nat} {ts : List WT} {ws : List FW} (h : CvAll w base g cap ts ws) (hb : Below w.heap.size w W) : CvAll W base g cap ts ws :=
  ⟨h.len, ownsRow_keep h.row (fun k hk => hb.block k (ownsRow_own h.row k hk).1), fun i h1 h2 => (h.rep i h1 h2).move (fun k hk => hb.block k ((h.rep i h1 h2).lt k hk).1)⟩
theorem add0 (g j : Nat) : (⟨g, 0, none⟩ : Addr).add j = ⟨g, j, none⟩ := by unfold Addr.add; split <;> simp_all
theorem CvAll.rw_ {w : World} {base g cap : Nat} {ts : List WT} {ws : List FW} (h : CvAll w base g cap ts ws) : RowW w base (.slice (some ⟨g, 0, none⟩) ws.length cap) ts := by
  have := ownsRow_cut h.row (by rw [flat3_len, h.len])
  unfold RowW
  rw [h.len]; exact this
/-- The mark behind the words. -/
theorem CvAll.mark {w : World} {base g cap : Nat} {ts : List WT} {ws : List FW} (h : CvAll w base g cap ts ws) : ws.length + 1 ≤ cap ∧ w.cell? ⟨g, ws.length * 3, none⟩ = some (.int .u16 7777) := by
  refine ⟨(ownsRow_some h.row).2.2, ?_⟩
  have := h.row.cells (g := g) rfl (ws.length * 3) (.int .u16 7777) (by
    rw [List.getElem?_append_right (by rw [flat3_len, h.len]; exact Nat.le_refl _), flat3_len, h.len, Nat.sub_self]; rfl)
  rwa [add0] at this
/-- The marks behind a word's lists. -/
theorem CvW.marks {w : World} {base : Nat} {t : WT} {x : FW} (h : CvW w base t x) : ∃ gi gc, t.ia = some ⟨gi, 0, none⟩ ∧ t.ca = some ⟨gc, 0, none⟩ ∧ x.instrs.length + 1 ≤ t.ic ∧ x.calls.length + 1 ≤ t.cc ∧
    w.cell? ⟨gi, x.instrs.length * 5 + 1, none⟩ = some (.int .i64 777) ∧ w.cell? ⟨gc, x.calls.length, none⟩ = some (.int .u16 7777) := by
  have hi := h.ins
  have hc := h.calls
  rcases hi.2 with ⟨_, hn⟩ | ⟨gi, c1, cur, e1, _⟩
  · omega
  rcases hc.2 with ⟨_, hn⟩ | ⟨gc, c2, cur2, e2, _⟩
  · omega
  injection e1 with e1 e3 e4
  injection e2 with e2 e5 e6
  rw [e1, e3, e4] at hi
  rw [e2, e5, e6] at hc
  refine ⟨gi, gc, e1, e2, by rw [e4]; exact (ownsRow_some hi).2.2, by rw [e6]; exact (ownsRow_some hc).2.2, ?_, ?_⟩
  · have := hi.cells (g := gi) rfl (x.instrs.length * 5 + 1) (.int .i64 777) (by
      rw [List.getElem?_append_right (by rw [flat5_len]; omega), flat5_len, show x.instrs.length * 5 + 1 - x.instrs.length * 5 = 1 by omega]; rfl)
    rwa [add0] at this
  · have := hc.cells (g := gc) rfl (x.calls.length) (.int .u16 7777) (by
      rw [List.getElem?_append_right (by simp), List.length_map, Nat.sub_self]; rfl)
    rwa [add0] at this
theorem CvAll.fwin {w w0 : World} {base g cap : Nat} {ts : List WT} {ws : List FW} {A : Option Addr} (h : CvAll w base g cap ts ws) (hF : FWin w0 A ws) : FWin w (some ⟨g, 0, none⟩) ws := fun i hi => by
  have h1 : i < ts.length := by rw [h.len]; exact hi
  have q := h.rep i h1 hi
  obtain ⟨g', eg, c0, c1, c2⟩ := h.rw_.at_ h1
  obtain rfl : g = g' := by cases eg; rfl
  obtain ⟨b, off, ia, ic, ca, cc, _, wi⟩ := hF i hi
  have r := q.wrep
  have r1 := r.rowi
  have r2 := r.rowc
  unfold WT.vi at c1 r1
  unfold WT.vc at c2 r2
  rw [q.at_] at c0
  rw [q.il] at c1 r1
  rw [q.cl] at c2 r2
  obtain ⟨gi, gc, e1, e2, _⟩ := q.marks
  refine ⟨g, 0, (ts[i]).ia, (ts[i]).ic, (ts[i]).ca, (ts[i]).cc, rfl, wi.at0, wi.at1, by rw [Nat.zero_add]; exact c0, by rw [Nat.zero_add]; exact c1, by rw [Nat.zero_add]; exact c2, insIn_of_row r1 wi.ins.len, r2.atsIn wi.calls.len, wi.small, fun e => ?_⟩
  rw [e2] at e; cases e

set_option maxRecDepth 100000 in
set_option maxHeartbeats 4000000 in
theorem whole_any (w : World) (A : Option Addr) (base g cap c : Nat) (ts : List WT) (ws : List FW) (h : CvAll w base g cap ts ws) (hF : FWin w A ws) (hl : ws.length ≤ 20000) :
    Calls Tryd.prog 30 #[.slice (some ⟨g, 0, none⟩) ws.length cap, .slice A ws.length c] w fun e w' => e = .returned (.bool true) ∧ Below w.heap.size w w' := by
  have HC := Lib.hid h
  have HF := Lib.hid hF
  have PL := Lib.hid (plain_any w (some ⟨g, 0, none⟩) cap ws (h.fwin hF) hl)
  have MK := Lib.hid h.mark
  obtain ⟨n, hn⟩ : ∃ n, n = ws.length := ⟨_, rfl⟩
  have SM : Hid (∀ W B d, Below w.heap.size w W → FWin W B ws → Calls Tryd.prog 13 #[.slice B n d, .slice A n c] W fun e w' => e = .returned (.bool true) ∧ Below W.heap.size W w') := fun W B d hb hB => by
    rw [hn]; exact same_any W B A d c ws hB (hF.below hb) hl
  rw [← hn] at hl PL MK ⊢
  have HN := Lib.hid hn
  clear h hF hn
  have n0 : IntKind.i64.wrap ((n : Int) + 1) = (n : Int) + 1 := by simp [IntKind.wrap, IntKind.bits, IntKind.signed]; omega
  have n1 : (n : Int) + 1 ≤ (cap : Int) := by have := MK.out.1; omega
  have n2 : (0 : Int) ≤ (n : Int) + 1 := by omega
  go_enter Tryd.func30, Tryd.ntmps30
  go_wp2_with (fail)
  refine PL.out.mono ?_
  rintro e W1 hp
  have hp' : ∃ B d, e = .returned (.slice B n d) ∧ Below w.heap.size w W1 ∧ FWin W1 B ws := by
    obtain ⟨B, d, e1, b1, f1, _⟩ := hp
    exact ⟨B, d, by rw [HN.out]; exact e1, b1, f1⟩
  obtain ⟨B, d, rfl, b1, f1⟩ := hp'
  have B1 := Lib.hid b1
  have S1 := Lib.hid (SM.out W1 B d b1 f1)
  clear hp b1 f1 PL SM
  go_wp2_with (fail)
  refine S1.out.mono ?_
  rintro e W2 ⟨rfl, b2⟩
  have B2 := Lib.hid (b_then B1.out b2)
  have c0 := keep_cell MK.out.2 B2.out
  clear b2 S1 B1
  go_wp2_with (fail)
  go_loopw [5] (fun i wr => ∃ k : Nat, k ≤ n ∧ i = .int .i64 k ∧ Hid (Below w.heap.size w wr)) (fun i _ => n - (intOf i).toNat)
  case atStart => exact ⟨0, Nat.zero_le _, rfl, B2⟩
  case round =>
    clear c0 B2 MK
    obtain ⟨k, hk, rfl, hw⟩ := hrel
    by_cases hlt : k < n
    · have hkl : k < ws.length := by rw [← HN.out]; exact hlt
      have HC2 := Lib.hid (HC.out.below hw.out)
      have hkt : k < ts.length := by rw [HC2.out.len]; exact hkl
      obtain ⟨b1, o1, ia1, ic1, ca1, cc1, rfl, q1⟩ := HF.out k hkl
      have Q1 := Lib.hid (q1.below hw.out)
      obtain ⟨gi, gc, e1, e2, e3, e4, e5, e6⟩ := (HC2.out.rep k hkt hkl).marks
      obtain ⟨g', eg, d0, d1, d2⟩ := HC2.out.rw_.at_ hkt
      obtain rfl : g = g' := by cases eg; rfl
      have il := (HC2.out.rep k hkt hkl).il
      have cl := (HC2.out.rep k hkt hkl).cl
      obtain ⟨t, ht⟩ : ∃ t, t = ts[k] := ⟨_, rfl⟩
      obtain ⟨x, hx⟩ : ∃ x, x = ws[k] := ⟨_, rfl⟩
      rw [← ht] at e1 e2 e3 e4 d1 d2 il cl
      rw [← hx] at Q1 e3 e4 e5 e6 il cl
      obtain ⟨ta, ia, til, ic, ca, tcl, cc⟩ := t
      replace e1 : ia = some ⟨gi, 0, none⟩ := e1
      replace e2 : ca = some ⟨gc, 0, none⟩ := e2
      replace e3 : x.instrs.length + 1 ≤ ic := e3
      replace e4 : x.calls.length + 1 ≤ cc := e4
      replace il : til = x.instrs.length := il
      replace cl : tcl = x.calls.length := cl
      replace d1 : wr.cell? ⟨g, k * 3 + 1, none⟩ = some (.slice ia til ic) := d1
      replace d2 : wr.cell? ⟨g, k * 3 + 2, none⟩ = some (.slice ca tcl cc) := d2
      rw [e1, il] at d1
      rw [e2, cl] at d2
      have c1 := Q1.out.c1
      have c2 := Q1.out.c2
      have hml := Q1.out.ins.len
      have hpl := Q1.out.small
      obtain ⟨m, hm⟩ : ∃ m, m = x.instrs.length := ⟨_, rfl⟩
      obtain ⟨p, hp⟩ : ∃ p, p = x.calls.length := ⟨_, rfl⟩
      rw [← hm] at c1 d1 e3 e5 hml
      rw [← hp] at c2 d2 e4 e6 hpl
      have NX : Hid (∀ nq, Below w.heap.size w (wr.drewN nq)) := fun nq => b_drewN hw.out nq
      have hkn : (k : Int) < (n : Int) := by omega
      have m0 : IntKind.i64.wrap ((m : Int) + 1) = (m : Int) + 1 := by simp [IntKind.wrap, IntKind.bits, IntKind.signed]; omega
      have m1 : (m : Int) + 1 ≤ (ic : Int) := by omega
      have m2 : (0 : Int) ≤ (m : Int) + 1 := by omega
      have p0 : IntKind.i64.wrap ((p : Int) + 1) = (p : Int) + 1 := by simp [IntKind.wrap, IntKind.bits, IntKind.signed]; omega
      have p1 : (p : Int) + 1 ≤ (cc : Int) := by omega
      have p2 : (0 : Int) ≤ (p : Int) + 1 := by omega
      clear ht hx hm hp e1 e2 il cl q1 d0 eg hw Q1
      go_wp2_with (fail)
      go_quiet (fail)
      go_wp2_with (fail)
      go_roundw
      case rel => exact ⟨k + 1, hlt, by go_num, NX.out nq⟩
      case measure => first | (simp [intOf]; done) | (simp [intOf]; omega)
    · have hkn : ¬ (k : Int) < (n : Int) := by omega
      go_wp2_with (fail)
      go_ret
      exact ⟨rfl, hw.out⟩
end Go.Proofs.YtabeljpnmmfpgaaDoor
