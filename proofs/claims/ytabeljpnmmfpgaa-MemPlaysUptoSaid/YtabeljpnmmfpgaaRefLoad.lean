/-
  (*ref.Memory).bank, Load: what they tell.
-/
import Derived.Test.YtabeljpnmmfpgaaRefDef
import Derived.Test.YtabeljpnmmfpgaaMemImage
import Derived.Deep.QuietTactic
import Derived.BigQuiet
import Derived.Lib.Hide
namespace Go.Proofs.Ytabeljpnmmfpgaa
open Go.RowKit Go.MapKept
set_option linter.unusedVariables false
set_option linter.unusedSimpArgs false

theorem below_drewN {B : Nat} {a w : World} (h : Below B a w) (n : Nat) : Below B a (w.drewN n) := ⟨h.os, h.tape, h.output, h.size, h.block⟩

/-- The chosen bank. -/
def BankPost (w : World) (M : Mm) (l : List Int) (bx : Nat → Nat) (e : Ending) (w' : World) : Prop :=
  Below w.heap.size w w' ∧ ((M.bank M.chosen = none ∧ e = .returned (.slice none 0 0)) ∨ ∃ i, i < l.length ∧ l.getD i 0 = M.chosen ∧ e = .returned (.slice (some ⟨bx i, 0, none⟩) 16384 16384))

set_option maxRecDepth 100000 in
set_option maxHeartbeats 4000000 in
theorem refBank_any {w : World} {b : Nat} {M : Mm} {S : Nat → Prop} {l : List Int} {bx : Nat → Nat} {bv : Value} {br bs : Nat} {tv : Value} (h : RefAt w b M S l bx bv br bs tv) :
    Calls Try.prog 58 #[.pointer (some ⟨b, 0, none⟩)] w (BankPost w M l bx) := by
  have hlen : l.length ≤ 16 := asc_len l 0 16 h.asc h.small
  obtain ⟨hc0, _, _, hc3, _⟩ := h.cells
  have hrow := h.rowAt
  have hbw : b < w.heap.size := heap_lt h.obj
  have hch := h.ok.chosen
  have hhas := h.has
  obtain ⟨ch, hche⟩ : ∃ x, x = M.chosen := ⟨_, rfl⟩
  rw [← hche] at hc3 hch
  obtain ⟨ba, bc, rfl⟩ : ∃ a c, bv = .slice a l.length c := by
    rcases hrow with ⟨e, rfl⟩ | ⟨g, c, rfl, _⟩
    · subst e; exact ⟨_, _, rfl⟩
    · exact ⟨_, _, rfl⟩
  have CE : Hid (∀ k, k < l.length → ∃ g o, ba = some ⟨g, o, none⟩ ∧ g < w.heap.size ∧ w.cell? ⟨g, o + k * 2, none⟩ = some (.int .i64 (l.getD k 0)) ∧ w.cell? ⟨g, o + k * 2 + 1, none⟩ = some (.slice (some ⟨bx k, 0, none⟩) 16384 16384)) := fun k hk => by
    rcases hrow with ⟨e, _⟩ | ⟨g, c, e, hr⟩
    · subst e; simp at hk
    · cases e
      obtain ⟨r1, r2⟩ := hr k hk
      exact ⟨g, 0, rfl, World.block_lt_of_cell? w _ r1, by rw [Nat.zero_add]; exact r1, by rw [Nat.zero_add]; exact r2⟩
  have we : IntKind.i64.wrap ch = ch := by simp [IntKind.wrap, IntKind.bits, IntKind.signed]; omega
  have none' : Hid ((∀ j, j < l.length → l.getD j 0 ≠ ch) → M.bank M.chosen = none) := fun hn => by
    rw [← Option.not_isSome_iff_eq_none, hhas, ← hche]
    intro hm
    obtain ⟨j, hj, e⟩ := List.mem_iff_getElem.1 hm
    exact hn j hj (by rw [List.getD_eq_getElem?_getD, List.getElem?_eq_getElem hj]; exact e)
  have HC := Lib.hid hche
  have C3 : Hid (∀ wr, Below w.heap.size w wr → wr.cell? ⟨b, 3, none⟩ = some (.int .u8 ch)) := fun wr hb => (hb.cell (p := ⟨b, 3, none⟩) hbw).trans hc3
  clear h hrow hhas hche
  go_enter Try.func58, Try.ntmps58
  go_wp2_with (fail)
  go_loopw [10] (fun i wr => ∃ k : Nat, k ≤ l.length ∧ i = .int .i64 k ∧ Hid (Below w.heap.size w wr ∧ ∀ j, j < k → l.getD j 0 ≠ ch)) (fun i _ => l.length - (intOf i).toNat)
  case atStart => exact ⟨0, Nat.zero_le _, rfl, Below.refl _ _, fun j hj => by omega⟩
  case round =>
    obtain ⟨k, hk, rfl, hrel⟩ := hrel
    by_cases hlt : k < l.length
    · obtain ⟨g, o, rfl, hg, r1, r2⟩ := CE.out k hlt
      have c0 : wr.cell? ⟨g, o + k * 2, none⟩ = some (.int .i64 (l.getD k 0)) := (hrel.out.1.cell (p := ⟨g, o + k * 2, none⟩) hg).trans r1
      have c1 : wr.cell? ⟨g, o + k * 2 + 1, none⟩ = some (.slice (some ⟨bx k, 0, none⟩) 16384 16384) := (hrel.out.1.cell (p := ⟨g, o + k * 2 + 1, none⟩) hg).trans r2
      have c3 := C3.out wr hrel.out.1
      obtain ⟨n, hn⟩ : ∃ n, n = l.getD k 0 := ⟨_, rfl⟩
      rw [← hn] at c0
      have HN := Lib.hid hn
      have c3' : (wr.alloc (.cells #[.int .i64 n, .slice (some ⟨bx k, 0, none⟩) 16384 16384] 37)).cell? ⟨b, 3, none⟩ = some (.int .u8 ch) := C3.out _ (hrel.out.1.alloc hrel.out.1.size _)
      clear hn r1 r2 hc0 hc3
      by_cases e : n = ch
      · have d1 : (n == ch) = true := by simpa using e
        have fin : Hid (∀ w', Below wr.heap.size wr w' → BankPost w M l bx (.returned (.slice (some ⟨bx k, 0, none⟩) 16384 16384)) w') := fun w' hw => ⟨hrel.out.1.trans (hw.mono hrel.out.1.size), .inr ⟨k, hlt, by rw [← HN.out, e, HC.out], rfl⟩⟩
        clear e
        go_wp2_with (fail)
        go_big_quiet (fail)
        go_wp2_with (fail)
        go_ret
        exact fin.out _ (below_drewN ((Below.refl _ _).alloc (Nat.le_refl _) _) _)
      · have d1 : (n == ch) = false := by simpa using e
        have nxt : Hid (∀ w', Below wr.heap.size wr w' → Below w.heap.size w w' ∧ ∀ j, j < k + 1 → l.getD j 0 ≠ ch) := fun w' hw => ⟨hrel.out.1.trans (hw.mono hrel.out.1.size), fun j hj => by
          by_cases ej : j = k
          · rw [ej, ← HN.out]; exact e
          · exact hrel.out.2 j (by omega)⟩
        clear e
        go_wp2_with (fail)
        go_big_quiet (fail)
        go_wp2_with (fail)
        go_roundw
        case rel => exact ⟨k + 1, by omega, by go_num, nxt.out _ (below_drewN ((Below.refl _ _).alloc (Nat.le_refl _) _) _)⟩
        case measure => first | (simp [intOf]; done) | (simp [intOf]; omega)
    · have fin : Hid (BankPost w M l bx (.returned (.slice none 0 0)) wr) := ⟨hrel.out.1, .inl ⟨none'.out (fun j hj => hrel.out.2 j (by omega)), rfl⟩⟩
      go_wp2_with (fail)
      go_ret
      exact fin.out

def LoadPost (w : World) (M : Mm) (a : Int) (e : Ending) (w' : World) : Prop := e = .returned (.int .u8 (M.load a)) ∧ Below w.heap.size w w'

set_option maxRecDepth 100000 in
set_option maxHeartbeats 8000000 in
theorem refLoad_rep {b : Nat} {M : Mm} {S : Nat → Prop} {a : Int} {w : World} (h : RefRep w b M S) (h0 : 0 ≤ a) (hu : a < 65536) :
    Calls Try.prog 45 #[.pointer (some ⟨b, 0, none⟩), .int .u16 a] w (LoadPost w M a) := by
  obtain ⟨l, bx, bv, br, bs, tv, H⟩ := h
  have hbk := Lib.hid (refBank_any H)
  have HH := Lib.hid H
  have wa : IntKind.i64.wrap a = a := by simp [IntKind.wrap, IntKind.bits, IntKind.signed]; omega
  obtain ⟨_, m1, m2, m3, m4, m5, m6, m7, _, _, mf⟩ := H.cells
  have hch := H.ok.chosen; have hpd := H.ok.pad; have hvo := H.ok.volume; have hpi := H.ok.pitch; have hti := H.ok.time
  obtain ⟨ch, hche⟩ : ∃ x, x = M.chosen := ⟨_, rfl⟩
  obtain ⟨pd, hpde⟩ : ∃ x, x = M.pad := ⟨_, rfl⟩
  obtain ⟨pi, hpie⟩ : ∃ x, x = M.pitch := ⟨_, rfl⟩
  obtain ⟨vo, hvoe⟩ : ∃ x, x = M.volume := ⟨_, rfl⟩
  obtain ⟨ti, htie⟩ : ∃ x, x = M.time := ⟨_, rfl⟩
  rw [← hche] at m3 hch; rw [← hpde] at m4 hpd; rw [← hpie] at m5 hpi; rw [← hvoe] at m6 hvo; rw [← htie] at m7 hti
  have NM := Lib.hid (And.intro hche (And.intro hpde (And.intro hpie (And.intro hvoe htie))))
  have same : Hid (∀ v : Int, v = M.load a → LoadPost w M a (.returned (.int .u8 v)) w) := fun v hv => ⟨by rw [hv], Below.refl _ _⟩
  clear H hche hpde hpie hvoe htie
  by_cases c1 : a < 16384
  · have f := Lib.hid (same.out 0 (by unfold Mm.load; rw [if_pos c1]))
    go_enter Try.func45, Try.ntmps45
    go_wp2
    go_ret
    exact f.out
  have c1' : 16384 ≤ a := by omega
  by_cases c2 : a < 32768
  · have fnone : Hid (∀ w', Below w.heap.size w w' → M.bank M.chosen = none → LoadPost w M a (.returned (.int .u8 0)) w') := fun w' hw hn => ⟨by unfold Mm.load; rw [if_neg c1, if_pos c2, hn], hw⟩
    have fsome : Hid (∀ w' i, Below w.heap.size w w' → i < l.length → l.getD i 0 = M.chosen → ∃ v, w'.cell? ⟨bx i, (a - 16384).toNat, none⟩ = some (.int .u8 v) ∧ LoadPost w M a (.returned (.int .u8 v)) w') := fun w' i hw hi e => by
      obtain ⟨g, g1, g2⟩ := HH.out.bank i hi
      refine ⟨g (a - 16384).toNat, ?_, ?_, hw⟩
      · rw [← g2.cell (i := (a - 16384).toNat) (by omega)]
        exact hw.cell (p := ⟨bx i, (a - 16384).toNat, none⟩) (HH.out.lt _ (HH.out.sx i hi))
      · rw [e] at g1
        unfold Mm.load; rw [if_neg c1, if_pos c2, g1]
    clear HH
    go_enter Try.func45, Try.ntmps45
    go_wp2_with (fail)
    refine hbk.out.mono ?_
    rintro e w1 ⟨hb1, ⟨hn, rfl⟩ | ⟨i, hi, hl, rfl⟩⟩
    · have f := Lib.hid (fnone.out w1 hb1 hn)
      have he := Lib.run_eql_slice_nil (P := Try.prog) w1 35 5 none 0 0 0 0 Try.underlying35
      clear fnone fsome hbk hb1
      go_wp2_with (fail)
      go_ret
      exact f.out
    · obtain ⟨v, hv, hf⟩ := fsome.out w1 i hb1 hi hl
      have f := Lib.hid hf
      have he := Lib.run_eql_slice_nil (P := Try.prog) w1 35 5 (some ⟨bx i, 0, none⟩) 16384 16384 0 0 Try.underlying35
      clear fnone fsome hbk hb1 hf
      go_wp2_with (fail)
      go_ret
      exact f.out
  have c2' : 32768 ≤ a := by omega
  by_cases c3 : a < 49152
  · have hc := HH.out.ram.cell (i := (a - 32768).toNat) (by omega)
    have f := Lib.hid (same.out (M.ram (a - 32768).toNat) (by unfold Mm.load; rw [if_neg c1, if_neg c2, if_pos c3]))
    obtain ⟨v, hv⟩ : ∃ v, v = M.ram (a - 32768).toNat := ⟨_, rfl⟩
    rw [← hv] at hc f
    clear hv
    go_enter Try.func45, Try.ntmps45
    go_wp2
    go_ret
    exact f.out
  have c3' : 49152 ≤ a := by omega
  by_cases c4 : a < 52224
  · have hc := HH.out.scr.cell (i := (a - 49152).toNat) (by omega)
    have f := Lib.hid (same.out (M.scr (a - 49152).toNat) (by unfold Mm.load; rw [if_neg c1, if_neg c2, if_neg c3, if_pos c4]))
    obtain ⟨v, hv⟩ : ∃ v, v = M.scr (a - 49152).toNat := ⟨_, rfl⟩
    rw [← hv] at hc f
    clear hv
    go_enter Try.func45, Try.ntmps45
    go_wp2
    go_ret
    exact f.out
  have c4' : 52224 ≤ a := by omega
  have L : Hid (M.load a = (if a = 65280 then M.chosen else if a = 65282 then M.pad else if a = 65284 then M.pitch % 256 else if a = 65285 then M.pitch / 256 else if a = 65286 then M.volume else if a = 65288 then M.time % 256 else if a = 65289 then M.time / 256 else 0)) := by
    show M.load a = _
    unfold Mm.load; rw [if_neg c1, if_neg c2, if_neg c3, if_neg c4]
  obtain ⟨e1, e2, e3, e4, e5⟩ := NM.out
  clear HH hbk
  by_cases p1 : a = 65280
  · have f := Lib.hid (same.out ch (by rw [L.out, if_pos p1, e1]))
    clear e1 e2 e3 e4 e5; subst p1
    go_enter Try.func45, Try.ntmps45
    go_wp2
    go_ret
    exact f.out
  by_cases p2 : a = 65282
  · have f := Lib.hid (same.out pd (by rw [L.out, if_neg p1, if_pos p2, e2]))
    clear e1 e2 e3 e4 e5; subst p2
    go_enter Try.func45, Try.ntmps45
    go_wp2
    go_ret
    exact f.out
  by_cases p3 : a = 65284
  · have f := Lib.hid (same.out (pi % 256) (by rw [L.out, if_neg p1, if_neg p2, if_pos p3, e3]))
    clear e1 e2 e3 e4 e5; subst p3
    go_enter Try.func45, Try.ntmps45
    go_wp2
    go_ret
    exact f.out
  by_cases p4 : a = 65285
  · have f := Lib.hid (same.out (pi / 256) (by rw [L.out, if_neg p1, if_neg p2, if_neg p3, if_pos p4, e3]))
    have tq : pi.tdiv 256 = pi / 256 := Int.tdiv_eq_ediv_of_nonneg hpi.1
    have t2 : IntKind.u16.wrap (pi / 256) = pi / 256 := by simp [IntKind.wrap, IntKind.bits, IntKind.signed]; omega
    have t3 : pi / 256 % 256 = pi / 256 := by omega
    clear e1 e2 e3 e4 e5; subst p4
    go_enter Try.func45, Try.ntmps45
    go_wp2
    go_ret
    exact f.out
  by_cases p5 : a = 65286
  · have f := Lib.hid (same.out vo (by rw [L.out, if_neg p1, if_neg p2, if_neg p3, if_neg p4, if_pos p5, e4]))
    clear e1 e2 e3 e4 e5; subst p5
    go_enter Try.func45, Try.ntmps45
    go_wp2
    go_ret
    exact f.out
  by_cases p6 : a = 65288
  · have f := Lib.hid (same.out (ti % 256) (by rw [L.out, if_neg p1, if_neg p2, if_neg p3, if_neg p4, if_neg p5, if_pos p6, e5]))
    clear e1 e2 e3 e4 e5; subst p6
    go_enter Try.func45, Try.ntmps45
    go_wp2
    go_ret
    exact f.out
  by_cases p7 : a = 65289
  · have f := Lib.hid (same.out (ti / 256) (by rw [L.out, if_neg p1, if_neg p2, if_neg p3, if_neg p4, if_neg p5, if_neg p6, if_pos p7, e5]))
    have tq : ti.tdiv 256 = ti / 256 := Int.tdiv_eq_ediv_of_nonneg hti.1
    have t2 : IntKind.u16.wrap (ti / 256) = ti / 256 := by simp [IntKind.wrap, IntKind.bits, IntKind.signed]; omega
    have t3 : ti / 256 % 256 = ti / 256 := by omega
    clear e1 e2 e3 e4 e5; subst p7
    go_enter Try.func45, Try.ntmps45
    go_wp2
    go_ret
    exact f.out
  have f := Lib.hid (same.out 0 (by rw [L.out, if_neg p1, if_neg p2, if_neg p3, if_neg p4, if_neg p5, if_neg p6, if_neg p7]))
  clear e1 e2 e3 e4 e5
  have q1 : (a == 65280) = false := by simpa using p1
  have q2 : (a == 65282) = false := by simpa using p2
  have q3 : (a == 65284) = false := by simpa using p3
  have q4 : (a == 65285) = false := by simpa using p4
  have q5 : (a == 65286) = false := by simpa using p5
  have q6 : (a == 65288) = false := by simpa using p6
  have q7 : (a == 65289) = false := by simpa using p7
  go_enter Try.func45, Try.ntmps45
  go_wp2
  go_ret
  exact f.out
end Go.Proofs.Ytabeljpnmmfpgaa
