/-
  whole: what Words laid is still as it was, the marks too.
-/
import Derived.BigQuiet
import Derived.Test.YtabeljpnmmfpgaaDoorFlSame
namespace Go.Proofs.YtabeljpnmmfpgaaDoor
open Go.RowKit Go.MapKept Go.Maps Go.Sort
set_option linter.unusedVariables false
set_option linter.unusedSimpArgs false

/-- All words as Words laid them. -/
structure CvAll (W : World) (base g cap : Nat) (ts : List WT) (ws : List FW) : Prop where
  len : ts.length = ws.length
  row : W.ownsRow base 53 3 (.slice (some ⟨g, 0, none⟩) (ws.length + 1) cap) (ws.length + 1) (ts.flatMap WT.cells ++ [.int .u16 7777, .slice none 0 0, .slice none 0 0])
  rep : ∀ (i : Nat) (h1 : i < ts.length) (h2 : i < ws.length), CvW W base ts[i] ws[i]
theorem CvAll.below {w W : World} {base g cap : Nat} {ts : List WT} {ws : List FW} (h : CvAll w base g cap ts ws) (hb : Below w.heap.size w W) : CvAll W base g cap ts ws :=
  ⟨h.len, ownsRow_keep h.row (fun k hk => hb.block k (ownsRow_own h.row k hk).1), fun i h1 h2 => (h.rep i h1 h2).move (fun k hk => hb.block k ((h.rep i h1 h2).lt k hk).1)⟩
theorem add0 (g j : Nat) : (⟨g, 0, none⟩ : Addr).add j = ⟨g, j, none⟩ := by unfold Addr.add; split <;> simp_all
theorem CvAll.rw_ {w : World} {base g cap : Nat} {ts : List WT} {ws : List FW} (h : CvAll w base g cap ts ws) : RowW w base (.slice (some ⟨g, 0, none⟩) ws.length cap) ts := by
  have := ownsRow_cut h.row (by rw [flat3_len, h.len])
  unfold RowW
  rw [h.len]; exact this
/-- The mark behind the words. -/
theorem CvAll.mark {w : World} {base g cap : Nat} {ts : List WT} {ws : List FW} (h : CvAll w base g cap ts ws) : ws.length + 1 ≤ cap ∧ w.cell? ⟨g, ws.length * 3, none⟩ = some (.int .u16 7777) := by
  refine ⟨(ownsRow_some h.row).2.2, ?_⟩
  have := h.row.cells (g := g) rfl (ws.length * 3) (.int .u16 7777) (by
    rw [List.getElem?_append_right (by rw [flat3_len, h.len]; exact Nat.le_refl _), flat3_len, h.len, Nat.sub_self]; rfl)
  rwa [add0] at this
/-- The marks behind a word's lists. -/
theorem CvW.marks {w : World} {base : Nat} {t : WT} {x : FW} (h : CvW w base t x) : ∃ gi gc, t.ia = some ⟨gi, 0, none⟩ ∧ t.ca = some ⟨gc, 0, none⟩ ∧ x.instrs.length + 1 ≤ t.ic ∧ x.calls.length + 1 ≤ t.cc ∧
    w.cell? ⟨gi, x.instrs.length * 5 + 1, none⟩ = some (.int .i64 777) ∧ w.cell? ⟨gc, x.calls.length, none⟩ = some (.int .u16 7777) := by
  have hi := h.ins
  have hc := h.calls
  rcases hi.2 with ⟨_, hn⟩ | ⟨gi, c1, cur, e1, _⟩
  · omega
  rcases hc.2 with ⟨_, hn⟩ | ⟨gc, c2, cur2, e2, _⟩
  · omega
  injection e1 with e1 e3 e4
  injection e2 with e2 e5 e6
  rw [e1, e3, e4] at hi
  rw [e2, e5, e6] at hc
  refine ⟨gi, gc, e1, e2, by rw [e4]; exact (ownsRow_some hi).2.2, by rw [e6]; exact (ownsRow_some hc).2.2, ?_, ?_⟩
  · have := hi.cells (g := gi) rfl (x.instrs.length * 5 + 1) (.int .i64 777) (by
      rw [List.getElem?_append_right (by rw [flat5_len]; omega), flat5_len, show x.instrs.length * 5 + 1 - x.instrs.length * 5 = 1 by omega]; rfl)
    rwa [add0] at this
  · have := hc.cells (g := gc) rfl (x.calls.length) (.int .u16 7777) (by
      rw [List.getElem?_append_right (by simp), List.length_map, Nat.sub_self]; rfl)
    rwa [add0] at this
theorem CvAll.fwin {w w0 : World} {base g cap : Nat} {ts : List WT} {ws : List FW} {A : Option Addr} (h : CvAll w base g cap ts ws) (hF : FWin w0 A ws) : FWin w (some ⟨g, 0, none⟩) ws := fun i hi => by
  have h1 : i < ts.length := by rw [h.len]; exact hi
  have q := h.rep i h1 hi
  obtain ⟨g', eg, c0, c1, c2⟩ := h.rw_.at_ h1
  obtain rfl : g = g' := by cases eg; rfl
  obtain ⟨b, off, ia, ic, ca, cc, _, wi⟩ := hF i hi
  have r := q.wrep
  have r1 := r.rowi
  have r2 := r.rowc
  unfold WT.vi at c1 r1
  unfold WT.vc at c2 r2
  rw [q.at_] at c0
  rw [q.il] at c1 r1
  rw [q.cl] at c2 r2
  obtain ⟨gi, gc, e1, e2, _⟩ := q.marks
  refine ⟨g, 0, (ts[i]).ia, (ts[i]).ic, (ts[i]).ca, (ts[i]).cc, rfl, wi.at0, wi.at1, by rw [Nat.zero_add]; exact c0, by rw [Nat.zero_add]; exact c1, by rw [Nat.zero_add]; exact c2, insIn_of_row r1 wi.ins.len, r2.atsIn wi.calls.len, wi.small, fun e => ?_⟩
  rw [e2] at e; cases e

set_option maxRecDepth 100000 in
set_option maxHeartbeats 4000000 in
theorem whole_any (w : World) (A : Option Addr) (base g cap c : Nat) (ts : List WT) (ws : List FW) (h : CvAll w base g cap ts ws) (hF : FWin w A ws) (hl : ws.length ≤ 20000) :
    Calls Tryd.prog 30 #[.slice (some ⟨g, 0, none⟩) ws.length cap, .slice A ws.length c] w fun e w' => e = .returned (.bool true) ∧ Below w.heap.size w w' := by
  have HC := Lib.hid h
  have HF := Lib.hid hF
  have PL := Lib.hid (plain_any w (some ⟨g, 0, none⟩) cap ws (h.fwin hF) hl)
  have MK := Lib.hid h.mark
  obtain ⟨n, hn⟩ : ∃ n, n = ws.length := ⟨_, rfl⟩
  have SM : Hid (∀ W B d, Below w.heap.size w W → FWin W B ws → Calls Tryd.prog 13 #[.slice B n d, .slice A n c] W fun e w' => e = .returned (.bool true) ∧ Below W.heap.size W w') := fun W B d hb hB => by
    rw [hn]; exact same_any W B A d c ws hB (hF.below hb) hl
  rw [← hn] at hl PL MK ⊢
  have HN := Lib.hid hn
  clear h hF hn
  have n0 : IntKind.i64.wrap ((n : Int) + 1) = (n : Int) + 1 := by simp [IntKind.wrap, IntKind.bits, IntKind.signed]; omega
  have n1 : (n : Int) + 1 ≤ (cap : Int) := by have := MK.out.1; omega
  have n2 : (0 : Int) ≤ (n : Int) + 1 := by omega
  go_enter Tryd.func30, Tryd.ntmps30
  go_wp2_with (fail)
  refine PL.out.mono ?_
  rintro e W1 hp
  have hp' : ∃ B d, e = .returned (.slice B n d) ∧ Below w.heap.size w W1 ∧ FWin W1 B ws := by
    obtain ⟨B, d, e1, b1, f1, _⟩ := hp
    exact ⟨B, d, by rw [HN.out]; exact e1, b1, f1⟩
  obtain ⟨B, d, rfl, b1, f1⟩ := hp'
  have B1 := Lib.hid b1
  have S1 := Lib.hid (SM.out W1 B d b1 f1)
  clear hp b1 f1 PL SM
  go_wp2_with (fail)
  refine S1.out.mono ?_
  rintro e W2 ⟨rfl, b2⟩
  have B2 := Lib.hid (b_then B1.out b2)
  have c0 := keep_cell MK.out.2 B2.out
  clear b2 S1 B1
  go_wp2_with (fail)
  go_loopw [5] (fun i wr => ∃ k : Nat, k ≤ n ∧ i = .int .i64 k ∧ Hid (Below w.heap.size w wr)) (fun i _ => n - (intOf i).toNat)
  case atStart => exact ⟨0, Nat.zero_le _, rfl, B2⟩
  case round =>
    clear c0 B2 MK
    obtain ⟨k, hk, rfl, hw⟩ := hrel
    by_cases hlt : k < n
    · have hkl : k < ws.length := by rw [← HN.out]; exact hlt
      have HC2 := Lib.hid (HC.out.below hw.out)
      have hkt : k < ts.length := by rw [HC2.out.len]; exact hkl
      obtain ⟨b1, o1, ia1, ic1, ca1, cc1, rfl, q1⟩ := HF.out k hkl
      have Q1 := Lib.hid (q1.below hw.out)
      obtain ⟨gi, gc, e1, e2, e3, e4, e5, e6⟩ := (HC2.out.rep k hkt hkl).marks
      obtain ⟨g', eg, d0, d1, d2⟩ := HC2.out.rw_.at_ hkt
      obtain rfl : g = g' := by cases eg; rfl
      have il := (HC2.out.rep k hkt hkl).il
      have cl := (HC2.out.rep k hkt hkl).cl
      obtain ⟨t, ht⟩ : ∃ t, t = ts[k] := ⟨_, rfl⟩
      obtain ⟨x, hx⟩ : ∃ x, x = ws[k] := ⟨_, rfl⟩
      rw [← ht] at e1 e2 e3 e4 d1 d2 il cl
      rw [← hx] at Q1 e3 e4 e5 e6 il cl
      obtain ⟨ta, ia, til, ic, ca, tcl, cc⟩ := t
      replace e1 : ia = some ⟨gi, 0, none⟩ := e1
      replace e2 : ca = some ⟨gc, 0, none⟩ := e2
      replace e3 : x.instrs.length + 1 ≤ ic := e3
      replace e4 : x.calls.length + 1 ≤ cc := e4
      replace il : til = x.instrs.length := il
      replace cl : tcl = x.calls.length := cl
      replace d1 : wr.cell? ⟨g, k * 3 + 1, none⟩ = some (.slice ia til ic) := d1
      replace d2 : wr.cell? ⟨g, k * 3 + 2, none⟩ = some (.slice ca tcl cc) := d2
      rw [e1, il] at d1
      rw [e2, cl] at d2
      have c1 := Q1.out.c1
      have c2 := Q1.out.c2
      have hml := Q1.out.ins.len
      have hpl := Q1.out.small
      obtain ⟨m, hm⟩ : ∃ m, m = x.instrs.length := ⟨_, rfl⟩
      obtain ⟨p, hp⟩ : ∃ p, p = x.calls.length := ⟨_, rfl⟩
      rw [← hm] at c1 d1 e3 e5 hml
      rw [← hp] at c2 d2 e4 e6 hpl
      have NX : Hid (∀ nq, Below w.heap.size w (wr.drewN nq)) := fun nq => b_drewN hw.out nq
      have hkn : (k : Int) < (n : Int) := by omega
      have m0 : IntKind.i64.wrap ((m : Int) + 1) = (m : Int) + 1 := by simp [IntKind.wrap, IntKind.bits, IntKind.signed]; omega
      have m1 : (m : Int) + 1 ≤ (ic : Int) := by omega
      have m2 : (0 : Int) ≤ (m : Int) + 1 := by omega
      have p0 : IntKind.i64.wrap ((p : Int) + 1) = (p : Int) + 1 := by simp [IntKind.wrap, IntKind.bits, IntKind.signed]; omega
      have p1 : (p : Int) + 1 ≤ (cc : Int) := by omega
      have p2 : (0 : Int) ≤ (p : Int) + 1 := by omega
      clear ht hx hm hp e1 e2 il cl q1 d0 eg hw Q1
      go_wp2_with (fail)
      go_quiet (fail)
      go_wp2_with (fail)
      go_roundw
      case rel => exact ⟨k + 1, hlt, by go_num, NX.out nq⟩
      case measure => first | (simp [intOf]; done) | (simp [intOf]; omega)
    · have hkn : ¬ (k : Int) < (n : Int) := by omega
      go_wp2_with (fail)
      go_ret
      exact ⟨rfl, hw.out⟩
end Go.Proofs.YtabeljpnmmfpgaaDoor
