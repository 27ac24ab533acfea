/-
  FlowWords: walked.
-/
import Derived.BigQuiet
import Derived.Deep.Cut
import Derived.Test.YtabeljpnmmfpgaaDoorFlWwA
import Derived.Test.YtabeljpnmmfpgaaDoorFlWwD
import Derived.Test.YtabeljpnmmfpgaaDoorFlBehB
namespace Go.Proofs.YtabeljpnmmfpgaaDoor
open Go.RowKit Go.MapKept Go.Maps Go.Sort
set_option linter.unusedVariables false
set_option linter.unusedSimpArgs false

theorem Good.of {kw k : Nat} {code : List Int} {en : Int} {E : List (Int × Int × Int)} {B : List (Int × Nat)} {r : Except (Int × Int) (List FW)} {v : Value} {t : List WT} {b e : Nat} (hb : ∀ j, 0 ≤ code.getD j 0 ∧ code.getD j 0 < 256) (h0 : 0 ≤ en) (h1 : en < 65536) (h : wordsFull kw k code en E B = some r) : Good ⟨v, t, lstR r, b, e⟩ :=
  ⟨(wordsFull_ok hb h0 h1 h).1, (wordsFull_ok hb h0 h1 h).2⟩

set_option maxRecDepth 100000 in
set_option maxHeartbeats 16000000 in
theorem flowWords_any (w : World) (A : Option Addr) (n c : Nat) (code : List Int) (en : Int) (Ae : Option Addr) (ne ce : Nat) (E : List (Int × Int × Int)) (Ab : Option Addr) (nb cb : Nat) (B : List (Int × Nat)) (h : CodeIn w A code) (hn : n = code.length) (hA : A = none → c = 0) (hl : n ≤ 2000000) (ht : Tab w) (hE : EffsIn w Ae E) (hne : ne = E.length) (hB : BanksIn w Ab B) (hnb : nb = B.length) (h0 : 0 ≤ en) (h1 : en < 65536) :
    Calls Tryd.prog 3 #[.agg #[.slice A n c, .int .u16 en, .slice Ae ne ce, .slice Ab nb cb]] w fun e w' => e = .returned (.bool true) ∧ Below w.heap.size w w' := by
  have HBY := Lib.hid h.byte
  have HLEN := Lib.hid h.len
  have DW : Hid (∀ (W : World) (Aq : Option Addr) (cq : Nat) (code' : List Int) (r : Except (Int × Int) (List FW)), Below w.heap.size w W → CodeIn W Aq code' → n = code'.length → wordsFull 20000 20000 code' en E B = some r →
      Calls Tryd.prog 11 #[.agg #[.slice Aq n cq, .int .u16 en, .slice Ae ne ce, .slice Ab nb cb]] W fun e w' => WordsPost W r e w') := fun W Aq cq code' r hb hc hq hr => by
    rw [hq, hne, hnb]
    exact words_any W Aq cq code' en Ae ce E Ab cb B hc (ht.below hb) (hE.below hb) (hB.below hb) h0 h1 20000 20000 r hr
  have RW : Hid (∀ (W : World) (Aq : Option Addr) (cq : Nat) (code' : List Int) (r : Except (Int × Int) (List FW)), Below w.heap.size w W → CodeIn W Aq code' → n = code'.length → wordsFull 20000 20000 code' en E B = some r →
      Calls Tryd.prog 12 #[.agg #[.slice Aq n cq, .int .u16 en, .slice Ae ne ce, .slice Ab nb cb]] W fun e w' => RWordsPost W r e w') := fun W Aq cq code' r hb hc hq hr => by
    rw [hq, hne, hnb]
    exact rwords_any W Aq cq code' en Ae ce E Ab cb B hc (hE.below hb) (hB.below hb) h0 h1 20000 20000 r hr
  have HC := Lib.hid h
  have HN := Lib.hid hn
  have HA := Lib.hid hA
  have HT := Lib.hid ht
  have HEN := Lib.hid (And.intro h0 h1)
  obtain ⟨r, hr⟩ := wordsFull_some (E := E) (B := B) h.byte h0 h1
  have HR := Lib.hid hr
  clear h hn hA ht hE hB hne hnb h0 h1 hr
  obtain ⟨cart, hcart⟩ : ∃ cart, cart = (#[.slice A n c, .int .u16 en, .slice Ae ne ce, .slice Ab nb cb] : Array Value) := ⟨_, rfl⟩
  have HCART := Lib.hid hcart
  have start := Lib.hid (show Below w.heap.size w (w.alloc (.cells #[.slice A n c, .int .u16 en, .slice Ae ne ce, .slice Ab nb cb] 27)) from b_alloc (Below.refl _ _) _)
  have r9 := Lib.hid (show (w.alloc (.cells #[.slice A n c, .int .u16 en, .slice Ae ne ce, .slice Ab nb cb] 27)).heap[w.heap.size]? = some (.cells cart 27 (0, 0)) by rw [hcart]; exact heap_alloc_at _ _)
  clear hcart
  go_enter Tryd.func3, Tryd.ntmps3
  go_wp2_with (fail)
  refine (fixed_any _ (HT.out.below start.out)).mono ?_
  rintro e W1 ⟨rfl, b1⟩
  have B1 := Lib.hid (b_then start.out b1)
  have X1 := Lib.hid ((b1.block _ (heap_lt r9.out)).trans r9.out)
  have CB : Hid (∀ W : World, W.heap[w.heap.size]? = some (.cells cart 27 (0, 0)) → W.cell? ⟨w.heap.size, 0, none⟩ = some (.slice A n c) ∧ W.cell? ⟨w.heap.size, 1, none⟩ = some (.int .u16 en) ∧ W.cell? ⟨w.heap.size, 2, none⟩ = some (.slice Ae ne ce) ∧ W.cell? ⟨w.heap.size, 3, none⟩ = some (.slice Ab nb cb)) := fun W hW => by
    rw [HCART.out] at hW
    exact ⟨cell_of hW 0, cell_of hW 1, cell_of hW 2, cell_of hW 3⟩
  obtain ⟨x0, x1, x2, x3⟩ := CB.out _ X1.out
  clear b1 start r9
  go_wp2_with (fail)
  refine (ownC_any W1 A n c code en Ae ne ce Ab nb cb (HC.out.below B1.out) HN.out HA.out hl).mono ?_
  rintro e W2 ⟨g, cap, rfl, hcap, row, b2⟩
  have hs1 : w.heap.size < W1.heap.size := heap_lt X1.out
  have B2 := Lib.hid (b_then B1.out b2)
  have X2 := Lib.hid ((b2.block _ (heap_lt X1.out)).trans X1.out)
  have GW1 := Lib.hid (ownsRow_some row)
  have RW2 : Hid (W2.ownsRow w.heap.size 5 1 (.slice (some ⟨g, 0, none⟩) (n + 2) cap) (n + 2) ((code ++ [77, 78]).map (Value.int .u8))) := by
    rw [List.map_append]
    exact ownsRow_lower row (by omega)
  clear row b2 x0 x1 x2 x3
  go_upto_region 4 with fail
  obtain ⟨dcart, hdc⟩ : ∃ d, d = (#[.slice (some ⟨g, 0, none⟩) n cap, .int .u16 en, .slice Ae ne ce, .slice Ab nb cb] : Array Value) := ⟨_, rfl⟩
  obtain ⟨V2, hV2⟩ : ∃ V, V = W2.alloc (.cells #[.slice (some ⟨g, 0, none⟩) n cap, .int .u16 en, .slice Ae ne ce, .slice Ab nb cb] 27) := ⟨_, rfl⟩
  obtain ⟨D, hD⟩ : ∃ d, d = W2.heap.size := ⟨_, rfl⟩
  have DBX : Hid (∀ W : World, W.heap[D]? = some (.cells dcart 27 (0, 0)) → W.cell? ⟨D, 0, none⟩ = some (.slice (some ⟨g, 0, none⟩) n cap) ∧ W.cell? ⟨D, 1, none⟩ = some (.int .u16 en) ∧ W.cell? ⟨D, 2, none⟩ = some (.slice Ae ne ce) ∧ W.cell? ⟨D, 3, none⟩ = some (.slice Ab nb cb)) := fun W hW => by
    rw [hdc] at hW
    exact ⟨cell_of hW 0, cell_of hW 1, cell_of hW 2, cell_of hW 3⟩
  have BB2 : Below W2.heap.size W2 V2 := by rw [hV2]; exact b_alloc (Below.refl _ _) _
  have DX2 : Hid (V2.heap[D]? = some (.cells dcart 27 (0, 0))) := by show _ = _; rw [hV2, hD, hdc]; exact heap_alloc_at _ _
  have XV2 := Lib.hid ((BB2.block _ (heap_lt X2.out)).trans X2.out)
  have BV2 := Lib.hid (b_then B2.out BB2)
  have RV2 := Lib.hid (ownsRow_keep RW2.out (fun k hk => BB2.block k (ownsRow_own RW2.out k hk).1))
  have OD : Hid (w.heap.size < g ∧ g < D ∧ V2.heap.size = D + 1) := ⟨by have := GW1.out.1; omega, by rw [hD]; exact GW1.out.2.1, by rw [hV2, hD]; simp⟩
  rw [← hV2, ← hD]
  clear BB2 hV2 hD hdc X2 B2 RW2 GW1 X1 B1
  obtain ⟨d0, d1, d2, d3⟩ := DBX.out _ DX2.out
  go_wp2_with (fail)
  refine (DW.out V2 (some ⟨g, 0, none⟩) cap code r BV2.out (codeIn_of_row RV2.out HBY.out HLEN.out) HN.out HR.out).mono ?_
  rintro e W3 hp
  obtain ⟨b3, A1, n1, c1, t1, rfl, hn1, hnt1, wa1⟩ := words_one hp
  clear hp d0 d1 d2 d3
  have GD0 := Lib.hid (wordsFull_ok HBY.out HEN.out.1 HEN.out.2 HR.out)
  obtain ⟨z, hz⟩ : ∃ z, z = ezR r := ⟨_, rfl⟩
  obtain ⟨za, hza⟩ : ∃ z, z = eaR r := ⟨_, rfl⟩
  obtain ⟨l, hll⟩ : ∃ l, l = lstR r := ⟨_, rfl⟩
  rw [← hll] at hn1 wa1 GD0
  obtain ⟨L, hL⟩ : ∃ L, L = l.length := ⟨_, rfl⟩
  rw [← hL] at hn1
  rw [hn1] at hnt1 wa1
  rw [← hz, ← hza, hn1]
  have HZ := Lib.hid hz
  have HZA := Lib.hid hza
  have HLL := Lib.hid hll
  have HL := Lib.hid hL
  have HNT1 : Hid (L = t1.length) := hnt1
  have Q1 := Lib.hid (WAt.mk' wa1)
  have B3 := Lib.hid (b_then BV2.out b3)
  have D3 := Lib.hid ((b3.block _ (heap_lt DX2.out)).trans DX2.out)
  have X3 := Lib.hid ((b3.block _ (heap_lt XV2.out)).trans XV2.out)
  have R3 := Lib.hid (ownsRow_keep RV2.out (fun k hk => b3.block k (ownsRow_own RV2.out k hk).1))
  have S23 : Hid (V2.heap.size ≤ W3.heap.size) := b3.size
  clear hz hza hll hL hn1 hnt1 wa1 b3
  go_upto_region 5 with fail
  obtain ⟨V3, hV3⟩ : ∃ V, V = W3.alloc (.cells #[.int .i64 z, .int .u16 za] 33) := ⟨_, rfl⟩
  obtain ⟨Y, hY⟩ : ∃ d, d = W3.heap.size := ⟨_, rfl⟩
  have BB3 : Hid (Below W3.heap.size W3 V3) := by rw [hV3]; exact b_alloc (Below.refl _ _) _
  have VD3 : Hid (VdAt V3 Y z za) := by rw [hV3, hY]; exact VdAt.fresh _ _ _
  have OY : Hid (Y = W3.heap.size ∧ V3.heap.size = Y + 1) := ⟨hY, by rw [hV3, hY]; simp⟩
  rw [← hV3, ← hY]
  clear hV3 hY
  obtain ⟨x0, x1, x2, x3⟩ := CB.out _ ((BB3.out.block _ (heap_lt X3.out)).trans X3.out)
  go_wp2_with (fail)
  refine (RW.out V3 A c code r (b_then B3.out BB3.out) (HC.out.below (b_then B3.out BB3.out)) HN.out HR.out).mono ?_
  rintro e W4 hp
  obtain ⟨b4, Am, nm, cm, tm, rfl, hnm, wam⟩ := rwords_one hp
  clear hp x0 x1 x2 x3
  rw [← HLL.out] at hnm wam
  rw [← HL.out] at hnm
  rw [hnm] at wam
  rw [← HZ.out, ← HZA.out, hnm]
  have S4 : Hid (FwSt w W4 cart dcart D Y g n cap code z za ⟨.slice A1 L c1, t1, l, V2.heap.size, W3.heap.size⟩ ⟨.slice Am L cm, tm, l, V3.heap.size, W4.heap.size⟩ ⟨.slice none 0 0, [], [], W4.heap.size, W4.heap.size⟩) := by
    have b34 := b_then BB3.out b4
    obtain ⟨o1, o2, o3⟩ := OD.out
    obtain ⟨y1, y2⟩ := OY.out
    have s4 := b4.size
    have s23 := S23.out
    exact ⟨b_then B3.out b34, (b34.block _ (heap_lt X3.out)).trans X3.out, (b34.block _ (heap_lt D3.out)).trans D3.out, ownsRow_keep R3.out (fun k hk => b34.block k (ownsRow_own R3.out k hk).1), VD3.out.below b4, Q1.out.keep (fun k h1 h2 => b34.block k h2), RAt.mk' wam, WAt.none _ _,
      ⟨o1, o2, by show D < V2.heap.size; omega, by show W3.heap.size ≤ Y; omega, by show Y < V3.heap.size; omega, Nat.le_refl _⟩, s23, s4, Nat.le_refl _, Nat.le_refl _⟩
  clear b4 hnm wam Q1 B3 D3 X3 R3 BB3 VD3 OD OY S23 DX2 XV2 BV2 RV2
  generalize V2.heap.size = q1b at *
  generalize W3.heap.size = q1e at *
  generalize V3.heap.size = mb at *
  obtain ⟨me, hme⟩ : ∃ x, x = W4.heap.size := ⟨_, rfl⟩
  rw [← hme] at S4
  clear hme
  have PL : Hid (∀ (W : World) (A' : Option Addr) (c' : Nat), FWin W A' l → Calls Tryd.prog 14 #[.slice A' L c'] W fun e w' => ∃ A2 c2, e = .returned (.slice A2 L c2) ∧ Below W.heap.size W w' ∧ FWin w' A2 l) := fun W A' c' hf => by
    rw [HL.out]
    refine (plain_any W A' c' l hf (by have := GD0.out.1; omega)).mono ?_
    rintro e w' ⟨A2, c2, he, hb, hf2, _⟩
    exact ⟨A2, c2, he, hb, hf2⟩
  have SM : Hid (∀ (W : World) (A' A2 : Option Addr) (c' c2 : Nat), FWin W A' l → FWin W A2 l → Calls Tryd.prog 13 #[.slice A' L c', .slice A2 L c2] W fun e w' => e = .returned (.bool true) ∧ Below W.heap.size W w') := fun W A' A2 c' c2 hf hf2 => by
    rw [HL.out]
    exact same_any W A' A2 c' c2 l hf hf2 (by have := GD0.out.1; omega)
  have FM : Hid (∀ W, RAt W ⟨.slice Am L cm, tm, l, mb, me⟩ → FWin W Am l) := fun W hW => jreps_fwin hW.at_.row hW.at_.reps (fun x hx => by have := GD0.out.2 x hx; exact ⟨this.1, by omega, by omega⟩)
  have FA : Hid (∀ W A' c' t' b' e', WAt W ⟨.slice A' L c', t', l, b', e'⟩ → FWin W A' l) := fun W A' c' t' b' e' hW => wordsAt_fwin hW.at_ GD0.out.2
  go_wp2_with (fail)
  refine (PL.out W4 A1 c1 (FA.out _ _ _ _ _ _ S4.out.w1)).mono ?_
  rintro e W5 ⟨Ap, cp, rfl, b5, fp⟩
  have S5 := Lib.hid (S4.out.bel b5)
  have FP := Lib.hid fp
  clear S4 b5 fp
  go_wp2_with (fail)
  refine (SM.out W5 Ap Am cp cm FP.out (FM.out _ S5.out.wm)).mono ?_
  rintro e W6 ⟨rfl, b6⟩
  have S6 := Lib.hid (S5.out.bel b6)
  clear S5 b6 FP
  obtain ⟨x0, x1, x2, x3⟩ := CB.out _ S6.out.box
  obtain ⟨d0, d1, d2, d3⟩ := DBX.out _ S6.out.dbox
  have v0 := S6.out.vd.c0
  have v1 := S6.out.vd.c1
  go_wp2_with (fail)
  refine (wholeCode_any W6 A n c _ g cap code en en Ae ne ce Ab nb cb Ae ne ce Ab nb cb (HC.out.below S6.out.below) HN.out hl S6.out.row).mono ?_
  rintro e W7 ⟨rfl, b7⟩
  have S7 := Lib.hid (S6.out.bel b7)
  clear S6 b7 x0 x1 x2 x3 d0 d1 d2 d3 v0 v1
  obtain ⟨d0, d1, d2, d3⟩ := DBX.out _ S7.out.dbox
  go_wp2_with (fail)
  refine (DW.out W7 (some ⟨g, 0, none⟩) cap code r S7.out.below (codeIn_of_row S7.out.row HBY.out HLEN.out) HN.out HR.out).mono ?_
  rintro e W8 hp
  obtain ⟨b8, A2, n2, c2, t2, rfl, hn2, hnt2, wa2⟩ := words_one hp
  clear hp d0 d1 d2 d3
  rw [← HLL.out] at hn2 wa2
  rw [← HL.out] at hn2
  rw [hn2] at hnt2 wa2
  rw [← HZ.out, ← HZA.out, hn2]
  have S8 := Lib.hid (S7.out.again b8 (WAt.mk' wa2) rfl rfl)
  have HNT2 : Hid (L = t2.length) := hnt2
  clear S7 b8 hn2 hnt2 wa2
  go_upto_region 9 with fail
  obtain ⟨V8, hV8⟩ : ∃ V, V = W8.alloc (.cells #[.int .i64 z, .int .u16 za] 33) := ⟨_, rfl⟩
  have BB8 : Below W8.heap.size W8 V8 := by rw [hV8]; exact b_alloc (Below.refl _ _) _
  have S9 := Lib.hid (S8.out.bel BB8)
  rw [← hV8]
  obtain ⟨q2b, hq2b⟩ : ∃ x, x = W7.heap.size := ⟨_, rfl⟩
  obtain ⟨q2e, hq2e⟩ : ∃ x, x = W8.heap.size := ⟨_, rfl⟩
  rw [← hq2b, ← hq2e] at S9
  clear S8 BB8 hV8 hq2b hq2e
  obtain ⟨d0, d1, d2, d3⟩ := DBX.out _ S9.out.dbox
  go_upto_if 60 with fail
  go_cut [] from 57 (fun wx => ∃ code' : List Int, Hid (FwSt w wx cart dcart D Y g n cap code' z za ⟨.slice A1 L c1, t1, l, q1b, q1e⟩ ⟨.slice Am L cm, tm, l, mb, me⟩ ⟨.slice A2 L c2, t2, l, q2b, q2e⟩) ∧ Hid (n = code'.length) ∧ Hid (∀ j, 0 ≤ code'.getD j 0 ∧ code'.getD j 0 < 256))
  case first =>
    by_cases h1n : 1 < n
    · obtain ⟨m, hm⟩ : ∃ m, n = m + 2 := ⟨n - 2, by omega⟩
      have hmc : m < code.length := by rw [← HN.out]; omega
      obtain ⟨x, hx⟩ : ∃ x, x = code.getD m 0 := ⟨_, rfl⟩
      have e0 : V8.cell? ⟨g, m, none⟩ = some (.int .u8 x) := by
        have := S9.out.row.cells (g := g) rfl m (.int .u8 x) (by rw [List.getElem?_map, List.getElem?_append_left hmc, List.getElem?_eq_getElem hmc, hx, List.getD_eq_getElem?_getD, List.getElem?_eq_getElem hmc]; rfl)
        rwa [add0] at this
      have e1 : V8.frozen? ⟨g, m, none⟩ = false := by
        rcases S9.out.row.2 with ⟨e1, _⟩ | ⟨g', cap', cur, e1, _, hh, _⟩
        · cases e1
        · cases e1
          exact free_of hh _
      have zw : IntKind.i64.wrap ((n : Int) - 2) = (m : Int) := by simp [IntKind.wrap, IntKind.bits, IntKind.signed]; omega
      have z0 : (1 : Int) < (n : Int) := by omega
      have z1 : (m : Int) < (n : Int) := by omega
      have NX : Hid (FwSt w (V8.setCell ⟨g, m, none⟩ (.int .u8 (bits .xor .u8 x 2))) cart dcart D Y g n cap (code.set m (bits .xor .u8 x 2)) z za ⟨.slice A1 L c1, t1, l, q1b, q1e⟩ ⟨.slice Am L cm, tm, l, mb, me⟩ ⟨.slice A2 L c2, t2, l, q2b, q2e⟩) := S9.out.xor hmc HN.out
      have NL : Hid (n = (code.set m (bits .xor .u8 x 2)).length) := by show _ = _; rw [List.length_set]; exact HN.out
      have NB : Hid (∀ j, 0 ≤ (code.set m (bits .xor .u8 x 2)).getD j 0 ∧ (code.set m (bits .xor .u8 x 2)).getD j 0 < 256) := fun j => by
        have hr : 0 ≤ bits .xor .u8 x 2 ∧ bits .xor .u8 x 2 < 256 := by
          simp only [bits]
          simp only [IntKind.wrap, IntKind.bits, IntKind.signed]
          constructor
          · simp; omega
          · simp; omega
        by_cases e : m = j
        · subst e
          rw [List.getD_eq_getElem?_getD, List.getElem?_set_self hmc]
          exact hr
        · rw [List.getD_eq_getElem?_getD, List.getElem?_set_ne e, ← List.getD_eq_getElem?_getD]
          exact HBY.out j
      clear hm h1n hx S9
      go_wp2_with (fail)
      go_region
      all_goals
        go_wp2_with (fail)
        go_meet
        exact ⟨_, Lib.hid (NX.out.bel (Below.refl _ _).drew), NL, NB⟩
    · have z0 : ¬ (1 : Int) < (n : Int) := by omega
      go_wp2_with (fail)
      go_meet
      exact ⟨code, S9, HN, HBY⟩
  case rest =>
    obtain ⟨code', S10, HN', HB'⟩ := hcut
    clear S9 d0 d1 d2 d3
    obtain ⟨W9, hW9⟩ : ∃ x, x = wc := ⟨_, rfl⟩
    subst hW9
    obtain ⟨r', hr'⟩ := wordsFull_some (E := E) (B := B) HB'.out HEN.out.1 HEN.out.2
    have HR' := Lib.hid hr'
    have HLEN' : Hid (code'.length ≤ 1000000000000) := by show _ ≤ _; rw [← HN'.out]; omega
    have GD1 := Lib.hid (wordsFull_ok HB'.out HEN.out.1 HEN.out.2 hr')
    obtain ⟨z', hz⟩ : ∃ z, z = ezR r' := ⟨_, rfl⟩
    obtain ⟨za', hza⟩ : ∃ z, z = eaR r' := ⟨_, rfl⟩
    obtain ⟨l', hll⟩ : ∃ l, l = lstR r' := ⟨_, rfl⟩
    rw [← hll] at GD1
    obtain ⟨L', hL⟩ : ∃ L, L = l'.length := ⟨_, rfl⟩
    have HZ' := Lib.hid hz
    have HZA' := Lib.hid hza
    have HLL' := Lib.hid hll
    have HL' := Lib.hid hL
    clear hr' hz hza hll hL
    obtain ⟨d0, d1, d2, d3⟩ := DBX.out _ S10.out.dbox
    go_wp2_with (fail)
    refine (DW.out W9 (some ⟨g, 0, none⟩) cap code' r' S10.out.below (codeIn_of_row S10.out.row HB'.out HLEN'.out) HN'.out HR'.out).mono ?_
    rintro e W10 hp
    obtain ⟨b10, A3, n3, c3, t3, rfl, hn3, hnt3, wa3⟩ := words_one hp
    clear hp d0 d1 d2 d3
    rw [← HLL'.out] at hn3 wa3
    rw [← HL'.out] at hn3
    rw [hn3] at hnt3 wa3
    rw [← HZ'.out, ← HZA'.out, hn3]
    have HNT3 : Hid (L' = t3.length) := hnt3
    have S11 := Lib.hid (S10.out.bel b10)
    have Q3 := Lib.hid (WAt.mk' wa3)
    have OR3 : Hid (q2e ≤ W9.heap.size ∧ Y < W9.heap.size ∧ W9.heap.size ≤ W10.heap.size) := ⟨S10.out.o2.2.2.2, S10.out.glt.2.1, b10.size⟩
    obtain ⟨q3b, hq3b⟩ : ∃ x, x = W9.heap.size := ⟨_, rfl⟩
    obtain ⟨q3e, hq3e⟩ : ∃ x, x = W10.heap.size := ⟨_, rfl⟩
    rw [← hq3b, ← hq3e] at Q3 OR3
    have SZ10 : Hid (q3e = W10.heap.size) := hq3e
    clear S10 b10 hn3 hnt3 wa3 hq3b hq3e
    obtain ⟨⟨v0, v1⟩, y0, y1⟩ := cells2 S11.out.vd
    go_upto_region 12 with fail
    obtain ⟨V10, hV10⟩ : ∃ V, V = (W10.setCell ⟨Y, 0, none⟩ (.int .i64 z')).setCell ⟨Y, 1, none⟩ (.int .u16 za') := ⟨_, rfl⟩
    have S12 : Hid (FwSt w V10 cart dcart D Y g n cap code' z' za' ⟨.slice A1 L c1, t1, l, q1b, q1e⟩ ⟨.slice Am L cm, tm, l, mb, me⟩ ⟨.slice A2 L c2, t2, l, q2b, q2e⟩) := by rw [hV10]; exact S11.out.setv
    have UV : Hid (Upd W10 V10 (fun k => k = Y)) := by
      rw [hV10]
      exact ((Upd.refl W10 (fun k => k = Y)).setCell (p := ⟨Y, 0, none⟩) (fun _ => rfl) _).setCell (p := ⟨Y, 1, none⟩) (fun _ => rfl) _
    have Q3' : Hid (WAt V10 ⟨.slice A3 L' c3, t3, l', q3b, q3e⟩) := Q3.out.keep (fun k h1 h2 => UV.out.block k (by have := SZ10.out; have h2 : k < q3e := h2; omega) (by have := OR3.out.2.1; have h1 : q3b ≤ k := h1; omega))
    have SZV : Hid (q3e ≤ V10.heap.size) := Nat.le_trans (Nat.le_of_eq SZ10.out) UV.out.size
    rw [← hV10]
    clear hV10 S11 Q3 UV v0 v1 y0 y1 SZ10
    obtain ⟨d0, d1, d2, d3⟩ := DBX.out _ S12.out.dbox
    go_wp2_with (fail)
    refine (RW.out V10 (some ⟨g, 0, none⟩) cap code' r' S12.out.below (codeIn_of_row S12.out.row HB'.out HLEN'.out) HN'.out HR'.out).mono ?_
    rintro e W11 hp
    obtain ⟨b11, Ao, no, co, tob, rfl, hno, wao⟩ := rwords_one hp
    clear hp d0 d1 d2 d3
    rw [← HLL'.out] at hno wao
    rw [← HL'.out] at hno
    rw [hno] at wao
    rw [← HZ'.out, ← HZA'.out, hno]
    have S13 := Lib.hid (S12.out.bel b11)
    have Q4 : Hid (WAt W11 ⟨.slice A3 L' c3, t3, l', q3b, q3e⟩) := Q3'.out.keep (fun k h1 h2 => b11.block k (by have := SZV.out; have h2 : k < q3e := h2; omega))
    have MO := Lib.hid (RAt.mk' wao)
    obtain ⟨ob, hob⟩ : ∃ x, x = V10.heap.size := ⟨_, rfl⟩
    obtain ⟨oe, hoe⟩ : ∃ x, x = W11.heap.size := ⟨_, rfl⟩
    rw [← hob, ← hoe] at MO
    have SZ11 : Hid (q3e ≤ W11.heap.size ∧ oe = W11.heap.size) := ⟨Nat.le_trans SZV.out b11.size, hoe⟩
    clear S12 Q3' b11 hno wao hob hoe SZV
    have PL' : Hid (∀ (W : World) (A' : Option Addr) (c' : Nat), FWin W A' l' → Calls Tryd.prog 14 #[.slice A' L' c'] W fun e w' => ∃ A2 c2, e = .returned (.slice A2 L' c2) ∧ Below W.heap.size W w' ∧ FWin w' A2 l') := fun W A' c' hf => by
      rw [HL'.out]
      refine (plain_any W A' c' l' hf (by have := GD1.out.1; omega)).mono ?_
      rintro e w' ⟨A2, c2, he, hb, hf2, _⟩
      exact ⟨A2, c2, he, hb, hf2⟩
    have SM' : Hid (∀ (W : World) (A' A2 : Option Addr) (c' c2 : Nat), FWin W A' l' → FWin W A2 l' → Calls Tryd.prog 13 #[.slice A' L' c', .slice A2 L' c2] W fun e w' => e = .returned (.bool true) ∧ Below W.heap.size W w') := fun W A' A2 c' c2 hf hf2 => by
      rw [HL'.out]
      exact same_any W A' A2 c' c2 l' hf hf2 (by have := GD1.out.1; omega)
    have v0 := S13.out.vd.c0
    have v1 := S13.out.vd.c1
    go_wp2_with (fail)
    refine (PL'.out W11 A3 c3 (wordsAt_fwin Q4.out.at_ GD1.out.2)).mono ?_
    rintro e W12 ⟨Ap', cp', rfl, b12, fp⟩
    have S14 := Lib.hid (S13.out.bel b12)
    have Q5 : Hid (WAt W12 ⟨.slice A3 L' c3, t3, l', q3b, q3e⟩) := Q4.out.keep (fun k h1 h2 => b12.block k (by have := SZ11.out.1; have h2 : k < q3e := h2; omega))
    have FO : Hid (FWin W12 Ao l') := FWin.below (jreps_fwin MO.out.at_.row MO.out.at_.reps (fun x hx => by have := GD1.out.2 x hx; exact ⟨this.1, by omega, by omega⟩)) b12
    have FP := Lib.hid fp
    have SZ12 : Hid (q3e ≤ W12.heap.size) := Nat.le_trans SZ11.out.1 b12.size
    clear S13 Q4 MO b12 fp v0 v1 SZ11
    go_wp2_with (fail)
    refine (SM'.out W12 Ap' Ao cp' co FP.out FO.out).mono ?_
    rintro e W13 ⟨rfl, b13⟩
    have S15 := Lib.hid (S14.out.bel b13)
    have Q6 : Hid (WAt W13 ⟨.slice A3 L' c3, t3, l', q3b, q3e⟩) := Q5.out.keep (fun k h1 h2 => b13.block k (by have := SZ12.out; have h2 : k < q3e := h2; omega))
    have SZ13 : Hid (q3e ≤ W13.heap.size) := Nat.le_trans SZ12.out b13.size
    clear S14 Q5 b13 FP FO SZ12
    go_wp2_with (fail)
    refine (PL.out W13 A1 c1 (FA.out _ _ _ _ _ _ S15.out.w1)).mono ?_
    rintro e W14 ⟨Ap2, cp2, rfl, b14, fp⟩
    have S16 := Lib.hid (S15.out.bel b14)
    have Q7 : Hid (WAt W14 ⟨.slice A3 L' c3, t3, l', q3b, q3e⟩) := Q6.out.keep (fun k h1 h2 => b14.block k (by have := SZ13.out; have h2 : k < q3e := h2; omega))
    have SZ14 : Hid (q3e ≤ W14.heap.size) := Nat.le_trans SZ13.out b14.size
    have FP := Lib.hid fp
    clear S15 Q6 b14 fp SZ13
    go_wp2_with (fail)
    refine (SM.out W14 Ap2 Am cp2 cm FP.out (FM.out _ S16.out.wm)).mono ?_
    rintro e W15 ⟨rfl, b15⟩
    have S17 := Lib.hid (S16.out.bel b15)
    have Q8 : Hid (WAt W15 ⟨.slice A3 L' c3, t3, l', q3b, q3e⟩) := Q7.out.keep (fun k h1 h2 => b15.block k (by have := SZ14.out; have h2 : k < q3e := h2; omega))
    have SZ15 : Hid (q3e ≤ W15.heap.size) := Nat.le_trans SZ14.out b15.size
    clear S16 Q7 b15 FP SZ14
    go_wp2_with (fail)
    refine (PL.out W15 A2 c2 (FA.out _ _ _ _ _ _ S17.out.w2)).mono ?_
    rintro e W16 ⟨Ap3, cp3, rfl, b16, fp⟩
    have S18 := Lib.hid (S17.out.bel b16)
    have Q9 : Hid (WAt W16 ⟨.slice A3 L' c3, t3, l', q3b, q3e⟩) := Q8.out.keep (fun k h1 h2 => b16.block k (by have := SZ15.out; have h2 : k < q3e := h2; omega))
    have SZ16 : Hid (q3e ≤ W16.heap.size) := Nat.le_trans SZ15.out b16.size
    have FP := Lib.hid fp
    clear S17 Q8 b16 fp SZ15
    go_wp2_with (fail)
    refine (SM.out W16 Ap3 Am cp3 cm FP.out (FM.out _ S18.out.wm)).mono ?_
    rintro e W17 ⟨rfl, b17⟩
    have S19 := Lib.hid (S18.out.bel b17)
    have QA : Hid (WAt W17 ⟨.slice A3 L' c3, t3, l', q3b, q3e⟩) := Q9.out.keep (fun k h1 h2 => b17.block k (by have := SZ16.out; have h2 : k < q3e := h2; omega))
    have SZ17 : Hid (q3e ≤ W17.heap.size) := Nat.le_trans SZ16.out b17.size
    clear S18 Q9 b17 FP SZ16 PL SM PL' SM' FM FA DW RW
    go_upto_region 16 with fail
    obtain ⟨V, hV⟩ : ∃ V, V = W17.alloc (.cells #[.slice none 0 0, .slice none 0 0, .slice none 0 0] 47) := ⟨_, rfl⟩
    obtain ⟨X, hX⟩ : ∃ x, x = W17.heap.size := ⟨_, rfl⟩
    have BV : Below W17.heap.size W17 V := by rw [hV]; exact b_alloc (Below.refl _ _) _
    have K0 : Hid (BkSt V X [] [] [] (.slice none 0 0) (.slice none 0 0) (.slice none 0 0)) := ⟨by rw [hV, hX]; exact heap_alloc_at _ _, World.ownsRow_nil _ _ _ _, World.ownsRow_nil _ _ _ _, World.ownsRow_nil _ _ _ _, by simp [Value.ownBlock]⟩
    have XLT : Hid (X < V.heap.size) := heap_lt K0.out.box
    have S20 := Lib.hid (S19.out.bel BV)
    have QB : Hid (WAt V ⟨.slice A3 L' c3, t3, l', q3b, q3e⟩) := QA.out.keep (fun k h1 h2 => BV.block k (by have := SZ17.out; have h2 : k < q3e := h2; omega))
    have ORD : Hid (w.heap.size ≤ q1b ∧ q1b ≤ q1e ∧ q1e ≤ q2b ∧ q2b ≤ q2e ∧ q2e ≤ q3b ∧ q3b ≤ q3e ∧ q3e ≤ X) := by
      obtain ⟨o1, o2, o3, o4, o5, o6⟩ := S19.out.o1
      obtain ⟨p1, p2, p3, p4⟩ := S19.out.o2
      obtain ⟨r1, r2, r3⟩ := OR3.out
      have := SZ17.out
      dsimp only at o3 o4 o5 o6 p1 p2 p3 p4
      exact ⟨by omega, p1, by omega, p3, r1, r3, by omega⟩
    have LENS : Hid (L ≤ 16384 ∧ L' ≤ 16384) := ⟨by rw [HL.out]; exact GD0.out.1, by rw [HL'.out]; exact GD1.out.1⟩
    rw [← hV, ← hX]
    clear hV hX BV S19 QA SZ17
    obtain ⟨h1, h2⟩ := LENS.out
    have N1 := Lib.hid (note_any V X [] [] [] _ _ _ K0.out A1 L c1 q1b t1 HNT1.out S20.out.w1.at_.row (fun k hk => by have h3 := S20.out.w1.lt k (List.mem_append_left _ (by rw [Option.mem_toList]; exact hk)); have h4 := ORD.out; have h5 : k < q1e := h3.2; omega) (by omega) (Nat.zero_le _) (Nat.zero_le _) (Nat.zero_le _))
    clear K0
    go_wp2_with (fail)
    refine N1.out.mono ?_
    rintro e V1 ⟨rfl, ⟨I1, C1, R1, k1⟩, u1⟩
    have K1 := Lib.hid k1
    have U1 := Lib.hid u1
    clear k1 u1 N1
    have N2 := Lib.hid (note_any V1 X _ _ _ _ _ _ K1.out A2 L c2 q2b t2 HNT2.out (S20.out.w2.at_.row.move (fun k hk => by
        have h3 := S20.out.w2.lt k (List.mem_append_left _ (by rw [Option.mem_toList]; exact hk)); have h4 := ORD.out; have h5 : k < q2e := h3.2
        exact U1.out.block k (S20.out.w2.at_.row.own k hk).1 (by omega))) (fun k hk => by have h3 := S20.out.w2.lt k (List.mem_append_left _ (by rw [Option.mem_toList]; exact hk)); have h4 := ORD.out; have h5 : k < q2e := h3.2; omega) (by omega) (by have := HNT1.out; simp; omega) (by have := HNT1.out; simp; omega) (by simp))
    clear K1
    go_wp2_with (fail)
    refine N2.out.mono ?_
    rintro e V2' ⟨rfl, ⟨I2, C2, R2, k1⟩, u2⟩
    have K2 := Lib.hid k1
    have U2 : Hid (Upd V V2' (fun k => X ≤ k)) := U1.out.trans u2 (fun i _ h => h)
    clear k1 u2 N2 U1
    have N3 := Lib.hid (note_any V2' X _ _ _ _ _ _ K2.out A3 L' c3 q3b t3 HNT3.out (QB.out.at_.row.move (fun k hk => by
        have h3 := QB.out.lt k (List.mem_append_left _ (by rw [Option.mem_toList]; exact hk)); have h4 := ORD.out; have h5 : k < q3e := h3.2
        exact U2.out.block k (QB.out.at_.row.own k hk).1 (by omega))) (fun k hk => by have h3 := QB.out.lt k (List.mem_append_left _ (by rw [Option.mem_toList]; exact hk)); have h4 := ORD.out; have h5 : k < q3e := h3.2; omega) (by omega) (by have := HNT1.out; have := HNT2.out; simp; omega) (by have := HNT1.out; have := HNT2.out; simp; omega) (by simp))
    clear K2
    go_wp2_with (fail)
    refine N3.out.mono ?_
    rintro e V3' ⟨rfl, ⟨I3, C3, R3, k1⟩, u3⟩
    have U3 : Hid (Upd V V3' (fun k => X ≤ k)) := U2.out.trans u3 (fun i _ h => h)
    obtain ⟨AI, cI, rfl⟩ := ownsRow_slice k1.kI
    obtain ⟨AC, cC, rfl⟩ := ownsRow_slice k1.kC
    obtain ⟨AW, cW, rfl⟩ := ownsRow_slice k1.kW
    have KP : Hid (∀ q : WRec, WAt V q → q.e ≤ X → WAt V3' q) := fun q hq he => hq.keep (fun k h3 h4 => U3.out.block k (by have := XLT.out; omega) (by omega))
    have ord := ORD.out
    have BK := Lib.hid (book_words (base := q1b) (X := X) (KP.out _ S20.out.w1 (by show q1e ≤ X; omega)) (KP.out _ S20.out.w2 (by show q2e ≤ X; omega)) (KP.out _ QB.out (by show q3e ≤ X; omega)) ⟨GD0.out.1, GD0.out.2⟩ ⟨GD0.out.1, GD0.out.2⟩ ⟨GD1.out.1, GD1.out.2⟩ ⟨Nat.le_refl _, ord.2.1, ord.2.2.1, ord.2.2.2.1, ord.2.2.2.2.1, ord.2.2.2.2.2.1, ord.2.2.2.2.2.2⟩ k1 (by simp) (by simp) rfl)
    have BZ : Hid (Below w.heap.size w V3') := S20.out.below.trans (U3.out.below S20.out.below.size (fun k hk => by omega))
    have SZ : Hid (q1b ≤ V3'.heap.size) := by
      have e1 := XLT.out
      have e2 := U3.out.size
      show q1b ≤ _
      omega
    clear k1 u3 N3 U3 U2 KP ord S20 QB
    go_wp2_with (fail)
    refine (apart_any _ q1b X _ _ _ _ _ _ _ _ _ BK.out.1 SZ.out).mono ?_
    rintro e V4' ⟨rfl, hu⟩
    have FIN : Hid (Below w.heap.size w V4') := BZ.out.trans (hu.below BZ.out.size (fun k hk => by have := BK.out.2 k hk; have := ORD.out.1; omega))
    clear hu
    go_wp2_with (fail)
    go_ret
    exact ⟨rfl, FIN.out⟩
end Go.Proofs.YtabeljpnmmfpgaaDoor
