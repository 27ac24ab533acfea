/-
  FlowAlone: walked.
-/
import Derived.BigQuiet
import Derived.Deep.Cut
import Derived.Test.YtabeljpnmmfpgaaDoorFlAlA
import Derived.Test.YtabeljpnmmfpgaaDoorFlAlP
import Derived.Test.YtabeljpnmmfpgaaDoorFlWwA
import Derived.Test.YtabeljpnmmfpgaaDoorFlWwD
import Derived.Test.YtabeljpnmmfpgaaDoorFlBehB
namespace Go.Proofs.YtabeljpnmmfpgaaDoor
open Go.RowKit Go.MapKept Go.Maps Go.Sort
set_option linter.unusedVariables false
set_option linter.unusedSimpArgs false

theorem wsl_err {code : List Int} {kw : Nat} {z b : Int} : ∀ (k : Nat) (o seen T : List Int) (acc : List FW), wsl code kw k o seen T acc = some (.error (z, b)) → z ≠ 0
  | 0, _, _, _, _, h => by cases h
  | k + 1, [], _, _, _, h => by unfold wsl at h; cases h
  | k + 1, a :: o, seen, T, acc, h => by
    unfold wsl at h
    cases hw : wordOf kw code T a with
    | none => rw [hw] at h; cases h
    | some r =>
      rw [hw] at h
      cases r with
      | error e =>
        obtain ⟨e1, e2⟩ := e
        cases h
        exact wordOf_err hw
      | ok x => exact wsl_err k _ _ _ _ h
theorem wordsFull_err {kw k : Nat} {code : List Int} {en : Int} {E : List (Int × Int × Int)} {B : List (Int × Nat)} {e : Int × Int} (h : wordsFull kw k code en E B = some (.error e)) : e.1 ≠ 0 := by
  unfold wordsFull at h
  split at h
  · unfold wordsOf at h
    cases hw : wsl code kw k [en] [] [] [] with
    | none => rw [hw] at h; cases h
    | some R =>
      rw [hw] at h
      cases R with
      | error e' =>
        have h := Option.some.inj h
        have h : Except.error e' = (Except.error e : Except (Int × Int) (List FW)) := h
        injection h with h
        subst h
        exact wsl_err k _ _ _ _ hw
      | ok acc =>
        have h := Option.some.inj h
        have h : Except.ok (sortFW acc) = (Except.error e : Except (Int × Int) (List FW)) := h
        cases h
  · cases h
    decide
theorem plain_L {l : List FW} {L : Nat} (hL : L = l.length) (hl : l.length ≤ 16384) (W : World) (A' : Option Addr) (c' : Nat) (hf : FWin W A' l) : Calls Tryd.prog 14 #[.slice A' L c'] W fun e w' => ∃ A2 c2, e = .returned (.slice A2 L c2) ∧ Below W.heap.size W w' ∧ FWin w' A2 l := by
  rw [hL]
  refine (plain_any W A' c' l hf (by omega)).mono ?_
  rintro e w' ⟨A2, c2, he, hb, hf2, _⟩
  exact ⟨A2, c2, he, hb, hf2⟩
theorem same_L {l : List FW} {L : Nat} (hL : L = l.length) (hl : l.length ≤ 16384) (W : World) (A' A2 : Option Addr) (c' c2 : Nat) (hf : FWin W A' l) (hf2 : FWin W A2 l) : Calls Tryd.prog 13 #[.slice A' L c', .slice A2 L c2] W fun e w' => e = .returned (.bool true) ∧ Below W.heap.size W w' := by
  rw [hL]
  exact same_any W A' A2 c' c2 l hf hf2 (by omega)
/-- The code while it is spoiled. -/
structure AlSt (w W : World) (base D g n cap : Nat) (dcart : Array Value) (f : Nat → Bool) (code code' : List Int) : Prop where
  upd : Upd w W (fun k => k = g)
  dbox : W.heap[D]? = some (.cells dcart 27 (0, 0))
  row : W.ownsRow base 5 1 (.slice (some ⟨g, 0, none⟩) n cap) n (code'.map (Value.int .u8))
  len : code'.length = n
  byte : ∀ j, 0 ≤ code'.getD j 0 ∧ code'.getD j 0 < 256
  same : ∀ j, f j = true → code'.getD j 0 = code.getD j 0
theorem AlSt.put {w W : World} {base D g n cap : Nat} {dcart : Array Value} {f : Nat → Bool} {code code' : List Int} (h : AlSt w W base D g n cap dcart f code code') {i : Nat} {u : Int} (hi : i < n) (hf : f i = false) (hu : 0 ≤ u ∧ u < 256) (hD : D ≠ g) : AlSt w (W.setCell ⟨g, i, none⟩ (.int .u8 u)) base D g n cap dcart f code (code'.set i u) := by
  have hl := h.len
  refine ⟨h.upd.setCell (p := ⟨g, i, none⟩) (fun _ => rfl) _, (heap_set_far hD).trans h.dbox, ?_, by rw [List.length_set]; exact hl, fun j => ?_, fun j hj => ?_⟩
  · rw [List.map_set]
    exact own_set5 h.row (by omega)
  · by_cases e : i = j
    · subst e
      rw [List.getD_eq_getElem?_getD, List.getElem?_set_self (by omega)]
      exact hu
    · rw [List.getD_eq_getElem?_getD, List.getElem?_set_ne e, ← List.getD_eq_getElem?_getD]
      exact h.byte j
  · have e : i ≠ j := fun e => by rw [e, hj] at hf; cases hf
    rw [List.getD_eq_getElem?_getD, List.getElem?_set_ne e, ← List.getD_eq_getElem?_getD]
    exact h.same j hj
theorem AlSt.drew {w W : World} {base D g n cap : Nat} {dcart : Array Value} {f : Nat → Bool} {code code' : List Int} (h : AlSt w W base D g n cap dcart f code code') : AlSt w W.drew base D g n cap dcart f code code' :=
  ⟨h.upd.drew, h.dbox, h.row, h.len, h.byte, h.same⟩
theorem code_of_row {w : World} {base g n cap : Nat} {code : List Int} (h : w.ownsRow base 5 1 (.slice (some ⟨g, 0, none⟩) n cap) n (code.map (Value.int .u8))) (hb : ∀ j, 0 ≤ code.getD j 0 ∧ code.getD j 0 < 256) (hl : code.length ≤ 1000000000000) : CodeIn w (some ⟨g, 0, none⟩) code := by
  have : w.ownsRow base 5 1 (.slice (some ⟨g, 0, none⟩) n cap) n ((code ++ []).map (Value.int .u8)) := by rw [List.append_nil]; exact h
  exact codeIn_of_row this hb hl

set_option maxRecDepth 100000 in
set_option maxHeartbeats 16000000 in
theorem flowAlone_any (w : World) (A : Option Addr) (n c : Nat) (code : List Int) (en : Int) (Ae : Option Addr) (ne ce : Nat) (E : List (Int × Int × Int)) (Ab : Option Addr) (nb cb : Nat) (B : List (Int × Nat)) (J : Option Addr) (jn jc : Nat) (junk : List Int) (h : CodeIn w A code) (hn : n = code.length) (hA : A = none → c = 0) (hl : n ≤ 2000000) (ht : Tab w) (hE : EffsIn w Ae E) (hne : ne = E.length) (hB : BanksIn w Ab B) (hnb : nb = B.length) (h0 : 0 ≤ en) (h1 : en < 65536) (hJ : CodeIn w J junk) (hjn : jn = junk.length) (hjl : jn ≤ 2000000) :
    Calls Tryd.prog 5 #[.agg #[.slice A n c, .int .u16 en, .slice Ae ne ce, .slice Ab nb cb], .slice J jn jc] w fun e w' => e = .returned (.bool true) ∧ Below w.heap.size w w' := by
  have HBY := Lib.hid h.byte
  have HC := Lib.hid h
  have HN := Lib.hid hn
  have HA := Lib.hid hA
  have HT := Lib.hid ht
  have HJ := Lib.hid hJ
  have HJN := Lib.hid hjn
  have HEN := Lib.hid (And.intro h0 h1)
  obtain ⟨r, hr⟩ := wordsFull_some (E := E) (B := B) h.byte h0 h1
  have HR := Lib.hid hr
  have DW : Hid (∀ (W : World) (Aq : Option Addr) (cq : Nat) (code' : List Int) (r : Except (Int × Int) (List FW)), Below w.heap.size w W → CodeIn W Aq code' → n = code'.length → wordsFull 20000 20000 code' en E B = some r →
      Calls Tryd.prog 11 #[.agg #[.slice Aq n cq, .int .u16 en, .slice Ae ne ce, .slice Ab nb cb]] W fun e w' => WordsPost W r e w') := fun W Aq cq code' r hb hc hq hr => by
    rw [hq, hne, hnb]
    exact words_any W Aq cq code' en Ae ce E Ab cb B hc (ht.below hb) (hE.below hb) (hB.below hb) h0 h1 20000 20000 r hr
  clear h hn hA ht hE hB hne hnb h0 h1 hr hJ hjn
  obtain ⟨cart, hcart⟩ : ∃ cart, cart = (#[.slice A n c, .int .u16 en, .slice Ae ne ce, .slice Ab nb cb] : Array Value) := ⟨_, rfl⟩
  have start := Lib.hid (show Below w.heap.size w (w.alloc (.cells #[.slice A n c, .int .u16 en, .slice Ae ne ce, .slice Ab nb cb] 27)) from b_alloc (Below.refl _ _) _)
  have r9 := Lib.hid (show (w.alloc (.cells #[.slice A n c, .int .u16 en, .slice Ae ne ce, .slice Ab nb cb] 27)).heap[w.heap.size]? = some (.cells cart 27 (0, 0)) by rw [hcart]; exact heap_alloc_at _ _)
  have CB : Hid (∀ W : World, W.heap[w.heap.size]? = some (.cells cart 27 (0, 0)) → W.cell? ⟨w.heap.size, 0, none⟩ = some (.slice A n c) ∧ W.cell? ⟨w.heap.size, 1, none⟩ = some (.int .u16 en) ∧ W.cell? ⟨w.heap.size, 2, none⟩ = some (.slice Ae ne ce) ∧ W.cell? ⟨w.heap.size, 3, none⟩ = some (.slice Ab nb cb)) := fun W hW => by
    rw [hcart] at hW
    exact ⟨cell_of hW 0, cell_of hW 1, cell_of hW 2, cell_of hW 3⟩
  clear hcart
  go_enter Tryd.func5, Tryd.ntmps5
  go_wp2_with (fail)
  refine (DW.out _ A c code r start.out (HC.out.below start.out) HN.out HR.out).mono ?_
  rintro e W1 hp
  obtain ⟨b1, A1, n1, c1, t1, rfl, hn1, hnt1, wa1⟩ := words_one hp
  clear hp
  have GD := Lib.hid (wordsFull_ok HBY.out HEN.out.1 HEN.out.2 HR.out)
  obtain ⟨z, hz⟩ : ∃ z, z = ezR r := ⟨_, rfl⟩
  obtain ⟨za, hza⟩ : ∃ z, z = eaR r := ⟨_, rfl⟩
  obtain ⟨l, hll⟩ : ∃ l, l = lstR r := ⟨_, rfl⟩
  rw [← hll] at hn1 GD wa1
  rw [← hz, ← hza]
  have HZ := Lib.hid hz
  have HZA := Lib.hid hza
  have HLL := Lib.hid hll
  have HNL := Lib.hid hn1
  have FW1 := Lib.hid (wordsAt_fwin wa1 GD.out.2)
  have hn1b : n1 ≤ 16384 := by rw [hn1]; exact GD.out.1
  have B1 := Lib.hid (b_then start.out b1)
  have X1 := Lib.hid ((b1.block _ (heap_lt r9.out)).trans r9.out)
  clear hz hza hll hn1 hnt1 wa1 b1 start r9
  go_upto_region 2 with fail
  obtain ⟨V1, hV1⟩ : ∃ V, V = W1.alloc (.cells #[.int .i64 z, .int .u16 za] 33) := ⟨_, rfl⟩
  obtain ⟨Y, hY⟩ : ∃ d, d = W1.heap.size := ⟨_, rfl⟩
  have BB : Hid (Below W1.heap.size W1 V1) := by rw [hV1]; exact b_alloc (Below.refl _ _) _
  have VD : Hid (VdAt V1 Y z za) := by rw [hV1, hY]; exact VdAt.fresh _ _ _
  rw [← hV1, ← hY]
  have B2 := Lib.hid (b_then B1.out BB.out)
  have X2 := Lib.hid ((BB.out.block _ (heap_lt X1.out)).trans X1.out)
  have FW2 := Lib.hid (FW1.out.below BB.out)
  clear hV1 hY B1 X1 FW1 BB
  go_wp2_with (fail)
  refine (fixed_any V1 (HT.out.below B2.out)).mono ?_
  rintro e W2 ⟨rfl, b2⟩
  have B3 := Lib.hid (b_then B2.out b2)
  have X3 := Lib.hid ((b2.block _ (heap_lt X2.out)).trans X2.out)
  have FW3 := Lib.hid (FW2.out.below b2)
  have VD3 := Lib.hid (VD.out.below b2)
  have v0 := VD3.out.c0
  have FX : Hid (Calls Tryd.prog 9 #[] W2 fun e w' => e = .returned (.bool true) ∧ Below w.heap.size w w') := (fixed_any W2 (HT.out.below B3.out)).mono (fun e w' hh => ⟨hh.1, b_then B3.out hh.2⟩)
  clear b2 B2 X2 FW2 VD
  by_cases hz0 : z = 0
  case neg =>
    have dz : (z != 0) = true := by simp; exact hz0
    clear hz0
    go_wp2_with (fail)
    refine FX.out.mono ?_
    rintro e W3 ⟨rfl, b3⟩
    have FIN := Lib.hid b3
    clear b3
    go_wp2_with (fail)
    go_ret
    exact ⟨rfl, FIN.out⟩
  case pos =>
  subst hz0
  have RO : Hid (wordsFull 20000 20000 code en E B = some (.ok l) ∧ za = 0) := by
    have h1 := HR.out
    have h2 := HZ.out
    have h3 := HLL.out
    have h4 := HZA.out
    cases hrr : r with
    | error e =>
      rw [hrr] at h1 h2
      exact absurd h2.symm (wordsFull_err h1)
    | ok ws =>
      rw [hrr] at h1 h3 h4
      have h3 : l = ws := h3
      rw [h3]
      exact ⟨h1, h4⟩
  have hza : za = 0 := RO.out.2
  subst hza
  by_cases hj0 : jn = 0
  case pos =>
    subst hj0
    go_wp2_with (fail)
    refine FX.out.mono ?_
    rintro e W3 ⟨rfl, b3⟩
    have FIN := Lib.hid b3
    clear b3
    go_wp2_with (fail)
    go_ret
    exact ⟨rfl, FIN.out⟩
  case neg =>
  have dj : ((jn : Int) == 0) = false := by simp; omega
  have dj2 : ¬ (jn : Int) = 0 := by omega
  obtain ⟨x0, x1, x2, x3⟩ := CB.out _ X3.out
  clear FX HR HZ HZA HLL
  have WAY := Lib.hid (wordsFull_ways HBY.out HEN.out.1 HEN.out.2 RO.out.1)
  have US : Hid (Calls Tryd.prog 24 #[.slice A n c, .slice A1 n1 c1] W2 fun e w' => ∃ U f, e = .returned (.slice (some ⟨U, 0, none⟩) (n + 70000) (n + 70000)) ∧ Marks w' U (n + 70000) f ∧ (∀ x ∈ l, NeedW code f x) ∧ Below W2.heap.size W2 w' ∧ W2.heap.size ≤ U) :=
    used_any W2 A n c code A1 n1 c1 l (HC.out.below B3.out) HN.out hl FW3.out HNL.out (by omega) (fun x hx => by
      obtain ⟨o1, o2⟩ := GD.out.2 x hx
      refine ⟨o1, o2.1, fun y hy => ?_⟩
      have q := (WAY.out.2.ok x hx).1.inv.fin y hy
      obtain ⟨t, ht⟩ := lookAt_cell (show (lookAt code y.at_).2 = 0 by rw [q.2.2.2.2])
      exact ⟨q.2.2.2.1.at_, t, ht, cellOf_range HBY.out ht⟩)
  go_wp2_with (fail)
  refine US.out.mono ?_
  rintro e W3 ⟨U, f, rfl, mk3, nd3, b3, u3⟩
  have MK3 := Lib.hid mk3
  have ND := Lib.hid nd3
  have B4 := Lib.hid (b_then B3.out b3)
  have X4 := Lib.hid ((b3.block _ (heap_lt X3.out)).trans X3.out)
  have FW4 := Lib.hid (FW3.out.below b3)
  have VD4 := Lib.hid (VD3.out.below b3)
  clear mk3 nd3 b3 u3 US B3 X3 FW3 VD3 v0 x0 x1 x2 x3
  obtain ⟨x0, x1, x2, x3⟩ := CB.out _ X4.out
  go_upto_region 6 with fail
  obtain ⟨V4, hV4⟩ : ∃ V, V = W3.alloc (.cells #[.slice A n c, .int .u16 en, .slice Ae ne ce, .slice Ab nb cb] 27) := ⟨_, rfl⟩
  obtain ⟨D, hD⟩ : ∃ d, d = W3.heap.size := ⟨_, rfl⟩
  have BB4 : Hid (Below W3.heap.size W3 V4) := by rw [hV4]; exact b_alloc (Below.refl _ _) _
  have D4 : Hid (V4.heap[D]? = some (.cells #[.slice A n c, .int .u16 en, .slice Ae ne ce, .slice Ab nb cb] 27 (0, 0))) := by show _ = _; rw [hV4, hD]; exact heap_alloc_at _ _
  have DS : Hid (D = W3.heap.size ∧ V4.heap.size = D + 1) := ⟨hD, by rw [hV4, hD]; simp⟩
  rw [← hV4, ← hD]
  clear hV4 hD x0 x1 x2 x3
  obtain ⟨x0, x1, x2, x3⟩ := CB.out V4 ((BB4.out.block _ (heap_lt X4.out)).trans X4.out)
  obtain ⟨i0, hi0, hq0, hq1, hq2⟩ := info_parts infoB
  have OWN : Hid ((V4.alloc (.cells #[] 5)).ownsRow V4.heap.size 5 1 (.slice (some ⟨V4.heap.size, 0, none⟩) 0 0) 0 []) := ⟨rfl, .inr ⟨V4.heap.size, 0, #[], rfl, Nat.le_refl _, heap_alloc_at _ _, Nat.le_refl _, by simp [maxLen], rfl, rfl⟩⟩
  have NIL : Hid (A = none → c = 0 ∧ n = 0) := fun e => ⟨HA.out e, by
    have e2 := HN.out
    by_cases h0 : 0 < code.length
    · obtain ⟨ad, e3, _⟩ := HC.out.at_ 0 h0
      rw [e] at e3; cases e3
    · omega⟩
  have LEN : Hid ((code.map (Value.int .u8)).length = n * 1) := by show _ = _; rw [HN.out]; simp
  have ONE : Hid (∀ u ∈ code.map (Value.int .u8), u.oneCell' = true) := fun u hu => by
    obtain ⟨y, _, rfl⟩ := List.mem_map.1 hu
    rfl
  have NEWS : Hid (∀ ad, A = some ad → ∀ j u, (code.map (Value.int .u8))[j]? = some u → (V4.alloc (.cells #[] 5)).cell? (ad.add j) = some u) := fun ad e j u hj => by
    rw [List.getElem?_map] at hj
    obtain ⟨y, hy, rfl⟩ := Option.map_eq_some_iff.1 hj
    obtain ⟨hj1, rfl⟩ := List.getElem?_eq_some_iff.1 hy
    obtain ⟨ad2, e2, hc⟩ := HC.out.at_ j hj1
    rw [e] at e2
    cases e2
    rw [List.getD_eq_getElem?_getD, List.getElem?_eq_getElem hj1] at hc
    exact keep_cell (keep_cell hc (b_then B4.out BB4.out)) (b_alloc (Below.refl _ _) _)
  have FIN : Hid (∀ (g cap : Nat) (W5 : World), W5.ownsRow V4.heap.size 5 1 (.slice (some ⟨g, 0, none⟩) n cap) n ([] ++ code.map (Value.int .u8)) → Upd (V4.alloc (.cells #[] 5)) W5 (fun k => k = V4.heap.size) → (g = V4.heap.size ∨ g = (V4.alloc (.cells #[] 5)).heap.size) →
      W5.heap[D]? = some (.cells #[.slice A n c, .int .u16 en, .slice Ae ne ce, .slice Ab nb cb] 27 (0, 0)) ∧ Hid (Below V4.heap.size V4 W5) ∧ Hid (W5.ownsRow V4.heap.size 5 1 (.slice (some ⟨g, 0, none⟩) n cap) n (code.map (Value.int .u8)))) := fun g cap W5 ho hu hat => by
    have hb : Below V4.heap.size V4 W5 := (b_alloc (Below.refl V4.heap.size V4) (.cells #[] 5)).trans (hu.below (by simp) (fun k hk => by omega))
    exact ⟨(hb.block D (heap_lt D4.out)).trans D4.out, hb, ho⟩
  have x0' := keep_cell x0 (b_alloc (Below.refl V4.heap.size V4) (.cells #[] 5))
  go_wp2_with (first
    | (at_builtin; refine wpList_append_any rfl _ _ 22 rfl V4.heap.size 5 i0 _ 1 1 Tryd.underlying22 hi0 hq0 hq1 hq2 rfl (by decide) V4.heap.size 0 0 [] rfl OWN.out A n c (code.map (Value.int .u8)) rfl NIL.out LEN.out NEWS.out ONE.out (by simp only [maxLen]; omega) (by omega) (by simp) n (by omega) ?_; intro g cap W5 ho hu hat; obtain ⟨d5, BB5, RW5⟩ := FIN.out g cap W5 ho hu hat; have D5 := Lib.hid d5; clear ho hu hat d5; have q0 := cell_of D5.out 0; have q1 := free_of D5.out 0))
  clear OWN NIL LEN ONE NEWS FIN x0 x1 x2 x3 x0'
  try clear q0
  try clear q1
  obtain ⟨V6, hV6⟩ : ∃ V, V = W5.setCell ⟨D, 0, none⟩ (.slice (some ⟨g, 0, none⟩) n cap) := ⟨_, rfl⟩
  obtain ⟨dcart, hdc⟩ : ∃ d, d = (#[.slice (some ⟨g, 0, none⟩) n cap, .int .u16 en, .slice Ae ne ce, .slice Ab nb cb] : Array Value) := ⟨_, rfl⟩
  have GG : Hid (V4.heap.size ≤ g ∧ g < W5.heap.size ∧ D < g) := by
    obtain ⟨q1, q2, q3⟩ := ownsRow_some RW5.out
    have := DS.out.2
    exact ⟨q1, q2, by omega⟩
  have DB : Hid (∀ W : World, W.heap[D]? = some (.cells dcart 27 (0, 0)) → W.cell? ⟨D, 0, none⟩ = some (.slice (some ⟨g, 0, none⟩) n cap) ∧ W.cell? ⟨D, 1, none⟩ = some (.int .u16 en) ∧ W.cell? ⟨D, 2, none⟩ = some (.slice Ae ne ce) ∧ W.cell? ⟨D, 3, none⟩ = some (.slice Ab nb cb)) := fun W hW => by
    rw [hdc] at hW
    exact ⟨cell_of hW 0, cell_of hW 1, cell_of hW 2, cell_of hW 3⟩
  have U6 : Hid (Upd W5 V6 (fun k => k = D)) := by
    rw [hV6]
    exact (Upd.refl W5 (fun k => k = D)).setCell (p := ⟨D, 0, none⟩) (fun _ => rfl) _
  have ST : Hid (AlSt V6 V6 V4.heap.size D g n cap dcart f code code) := by
    refine ⟨Upd.refl _ _, ?_, ownsRow_keep RW5.out (fun k hk => ?_), HN.out.symm, HBY.out, fun _ _ => rfl⟩
    · rw [hV6, hdc]
      exact heap_set_cell D5.out 0 _
    · have : g = k := by simpa [Value.ownBlock] using hk
      subst this
      exact U6.out.block _ GG.out.2.1 (by have := GG.out.2.2; omega)
  have KP : Hid (∀ k, k < D → V6.heap[k]? = W3.heap[k]?) := fun k hk => by
    have e1 := DS.out
    have e2 := BB4.out.size
    have e3 := BB5.out.size
    exact (U6.out.block k (by omega) (by omega)).trans ((BB5.out.block k (by omega)).trans (BB4.out.block k (by omega)))
  have B6 : Hid (Below w.heap.size w V6) := by
    have e1 := DS.out
    have e4 := B4.out.size
    exact (b_then B4.out (b_then BB4.out BB5.out)).trans (U6.out.below (by have := BB5.out.size; have := BB4.out.size; omega) (fun k hk => by omega))
  have MK6 : Hid (Marks V6 U (n + 70000) f ∧ U < D) := by
    have := MK3.out.lt
    have e1 := DS.out.1
    exact ⟨MK3.out.keep (KP.out U (by omega)), by omega⟩
  have VD6 : Hid (VdAt V6 Y 0 0 ∧ Y < D) := by
    have := heap_lt VD4.out
    have e1 := DS.out.1
    exact ⟨(KP.out Y (by omega)).trans VD4.out, by omega⟩
  have BW6 : Hid (Below W3.heap.size W3 V6) := ⟨U6.out.os.trans (BB5.out.os.trans BB4.out.os), U6.out.tape.trans (BB5.out.tape.trans BB4.out.tape), U6.out.output.trans (BB5.out.output.trans BB4.out.output), Nat.le_trans BB4.out.size (Nat.le_trans BB5.out.size U6.out.size), fun k hk => KP.out k (by have := DS.out.1; omega)⟩
  have LO : Hid (w.heap.size ≤ D) := by show _ ≤ _; rw [DS.out.1]; exact B4.out.size
  rw [← hV6]
  clear hV6 hdc U6 KP MK3 VD4 D5 RW5 BB5 BB4 D4 X4 B4
  go_loopw [9] (fun iv wr => ∃ (i : Nat) (code' : List Int), i ≤ n ∧ iv = .int .i64 (i : Int) ∧ Hid (AlSt V6 wr V4.heap.size D g n cap dcart f code code')) (fun iv _ => n - (intOf iv).toNat)
  case atStart => exact ⟨0, code, Nat.zero_le _, rfl, ST⟩
  case round =>
    clear ST
    obtain ⟨i, code', hi, rfl, S1⟩ := hrel
    have gd := GG.out
    have MKr : Hid (Marks wr U (n + 70000) f) := MK6.out.1.keep (S1.out.upd.block U MK6.out.1.lt (by have := MK6.out.2; omega))
    obtain ⟨d0, d1, d2, d3⟩ := DB.out wr S1.out.dbox
    by_cases hlt : i < n
    · have c0 := MKr.out.cell (j := i) (by omega)
      have zi : (i : Int) < (n : Int) := by omega
      have zi2 : (i : Int) < (n : Int) + 70000 := by omega
      clear gd
      cases hfi : f i with
      | true =>
        rw [hfi] at c0
        clear hfi
        go_wp2_with (fail)
        go_roundw
        case rel => exact ⟨i + 1, code', hlt, by go_num, S1⟩
        case measure => first | (simp [intOf]; done) | (simp [intOf]; omega)
      | false =>
        rw [hfi] at c0
        obtain ⟨m, hm⟩ : ∃ m, m = i % jn := ⟨_, rfl⟩
        have hml : m < jn := by rw [hm]; exact Nat.mod_lt _ (by omega)
        have hmj : m < junk.length := by rw [← HJN.out]; exact hml
        have bwr : Hid (Below w.heap.size w wr) := B6.out.trans (S1.out.upd.below B6.out.size (fun k hk => by have e1 := LO.out; have e2 := GG.out.2.2; omega))
        obtain ⟨ad, rfl, jc0⟩ := (HJ.out.below bwr.out).at_ m hmj
        obtain ⟨v, hv⟩ : ∃ v, v = junk.getD m 0 := ⟨_, rfl⟩
        rw [← hv] at jc0
        have VR : Hid (0 ≤ v ∧ v < 256) := by rw [hv]; exact HJ.out.byte m
        obtain ⟨u, hu⟩ : ∃ u, u = code'.getD i 0 := ⟨_, rfl⟩
        have e0 : wr.cell? ⟨g, i, none⟩ = some (.int .u8 u) := by
          have hlc : i < code'.length := by rw [S1.out.len]; exact hlt
          have := S1.out.row.cells (g := g) rfl i (.int .u8 u) (by rw [List.getElem?_map, List.getElem?_eq_getElem hlc, hu, List.getD_eq_getElem?_getD, List.getElem?_eq_getElem hlc]; rfl)
          rwa [add0] at this
        have F0 : wr.frozen? ⟨g, i, none⟩ = false := by
          rcases S1.out.row.2 with ⟨e1, _⟩ | ⟨g', cap', cur, e1, _, hh, _⟩
          · cases e1
          · cases e1
            exact free_of hh _
        have zr2 : (i : Int) % (jn : Int) = (m : Int) := by rw [hm]; exact (Int.natCast_emod i jn).symm
        have zr1 : (i : Int).tmod (jn : Int) = (m : Int) := by rw [Int.tmod_eq_emod_of_nonneg (by omega)]; exact zr2
        have zm : (m : Int) < (jn : Int) := by omega
        have NX : Hid (AlSt V6 (wr.setCell ⟨g, i, none⟩ (.int .u8 v)) V4.heap.size D g n cap dcart f code (code'.set i v)) := S1.out.put hlt hfi VR.out (by have := GG.out.2.2; omega)
        clear hm hv hu hfi bwr S1 MKr
        go_wp2_with (fail)
        go_region
        all_goals
          go_wp2_with (fail)
          go_roundw
          case rel => first | exact ⟨i + 1, _, hlt, by go_num, NX⟩ | exact ⟨i + 1, _, hlt, by go_num, Lib.hid NX.out.drew⟩
          case measure => first | (simp [intOf]; done) | (simp [intOf]; omega)
    · have zi : ¬ (i : Int) < (n : Int) := by omega
      have AG : Hid (∀ a, NeedC f a → AgC code code' a) := fun a ha => ⟨S1.out.same _ ha.1, S1.out.same _ ha.2⟩
      have LE : Hid (code'.length = code.length) := S1.out.len.trans HN.out
      have HRS : Hid (wordsFull 20000 20000 code' en E B = some (.ok l)) := wordsFull_same HBY.out LE.out RO.out.1 (fun x hx => ⟨cell_same LE.out (AG.out _ (ND.out x hx).at_), fun y hy => by
        have ni := (ND.out x hx).ins y hy
        have q := (WAY.out.2.ok x hx).1.inv.fin y hy
        exact look_same LE.out q.2.2.2.2 (AG.out _ ni.at_) (fun t ht => ⟨AG.out _ (ni.t t ht).1, fun e => AG.out _ ((ni.t t ht).2 e)⟩) (fun e => AG.out _ (ni.long e))⟩)
      have BZ : Hid (Below w.heap.size w wr) := B6.out.trans (S1.out.upd.below B6.out.size (fun k hk => by have e1 := LO.out; have e2 := GG.out.2.2; omega))
      have FWz : Hid (FWin wr A1 l) := FW4.out.below (BW6.out.trans (S1.out.upd.below BW6.out.size (fun k hk => by have e1 := DS.out.1; have e2 := GG.out.2.2; omega)))
      have VDz : Hid (VdAt wr Y 0 0) := (S1.out.upd.block Y (heap_lt VD6.out.1) (by have e1 := VD6.out.2; have e2 := GG.out.2.2; omega)).trans VD6.out.1
      clear gd MKr
      go_wp2_with (fail)
      refine (DW.out wr (some ⟨g, 0, none⟩) cap code' (.ok l) BZ.out (code_of_row S1.out.row S1.out.byte (by rw [S1.out.len]; omega)) S1.out.len.symm HRS.out).mono ?_
      rintro e W8 hp
      obtain ⟨b8, A2, n2, c2, t2, rfl, hn2, hnt2, wa2⟩ := words_one hp
      clear hp d0 d1 d2 d3
      have e1 : ezR (.ok l) = 0 := rfl
      have e2 : eaR (.ok l) = 0 := rfl
      have e3 : lstR (.ok l) = l := rfl
      rw [e3] at hn2 wa2
      have e4 : n2 = n1 := hn2.trans HNL.out.symm
      rw [e4] at wa2
      rw [e1, e2, e4]
      have FWm := Lib.hid (wordsAt_fwin wa2 GD.out.2)
      have BZ8 := Lib.hid (b_then BZ.out b8)
      have FWl := Lib.hid (FWz.out.below b8)
      have VDl := Lib.hid (VDz.out.below b8)
      clear e1 e2 e3 e4 hn2 hnt2 wa2 b8 FWz VDz
      go_upto_region 13 with fail
      obtain ⟨V9, hV9⟩ : ∃ V, V = W8.alloc (.cells #[.int .i64 0, .int .u16 0] 33) := ⟨_, rfl⟩
      obtain ⟨Y2, hY2⟩ : ∃ d, d = W8.heap.size := ⟨_, rfl⟩
      have BB9 : Below W8.heap.size W8 V9 := by rw [hV9]; exact b_alloc (Below.refl _ _) _
      have VD2 : Hid (VdAt V9 Y2 0 0) := by rw [hV9, hY2]; exact VdAt.fresh _ _ _
      have BZ9 := Lib.hid (b_then BZ8.out BB9)
      have FWm9 := Lib.hid (FWm.out.below BB9)
      have FWl9 := Lib.hid (FWl.out.below BB9)
      have VDl9 := Lib.hid (VDl.out.below BB9)
      rw [← hV9, ← hY2]
      clear hV9 hY2 BB9 FWm FWl VDl BZ8 BZ
      have v0 := VDl9.out.c0
      have v1 := VDl9.out.c1
      have w0 := VD2.out.c0
      have w1 := VD2.out.c1
      go_wp2_with (fail)
      refine (plain_L HNL.out GD.out.1 V9 A2 c2 FWm9.out).mono ?_
      rintro e WA ⟨Ap, cp, rfl, ba, fa⟩
      have BZa := Lib.hid (b_then BZ9.out ba)
      have FA := Lib.hid fa
      have FWla := Lib.hid (FWl9.out.below ba)
      clear ba fa v0 v1 w0 w1
      go_wp2_with (fail)
      refine (plain_L HNL.out GD.out.1 WA A1 c1 FWla.out).mono ?_
      rintro e WB ⟨Aq, cq, rfl, bb, fb⟩
      have BZb := Lib.hid (b_then BZa.out bb)
      have FB := Lib.hid fb
      have FAb := Lib.hid (FA.out.below bb)
      clear bb fb
      go_wp2_with (fail)
      refine (same_L HNL.out GD.out.1 WB Ap Aq cp cq FAb.out FB.out).mono ?_
      rintro e WC ⟨rfl, bc⟩
      have FINB := Lib.hid (b_then BZb.out bc)
      clear bc
      go_wp2_with (fail)
      go_ret
      exact ⟨rfl, FINB.out⟩
end Go.Proofs.YtabeljpnmmfpgaaDoor
