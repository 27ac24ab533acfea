/-
  FlowWays: the law's cell, leads, in, word, led, walked.
-/
import Derived.BigQuiet
import Derived.Test.YtabeljpnmmfpgaaDoorFlRwE
namespace Go.Proofs.YtabeljpnmmfpgaaDoor
open Go.RowKit Go.MapKept Go.Maps Go.Sort
set_option linter.unusedVariables false
set_option linter.unusedSimpArgs false

set_option maxRecDepth 100000 in
set_option maxHeartbeats 4000000 in
theorem lcell_any (w : World) (A : Option Addr) (c : Nat) (code : List Int) (a : Int) (h : CodeIn w A code) (h0 : 0 ≤ a) (h1 : a < 65536) :
    Calls Tryd.prog 19 #[.slice A code.length c, .int .u16 a] w fun e w' => e = .returned (.tuple #[.int .u16 ((cellOf code a).getD 0), .bool (cellOf code a).isSome]) ∧ Quiet w w' := by
  have w0 : IntKind.i64.wrap (a + 1) = a + 1 := by simp [IntKind.wrap, IntKind.bits, IntKind.signed]; omega
  by_cases hev : a % 2 = 0
  · have d0 : a.tmod 2 = 0 := by rw [Int.tmod_eq_emod_of_nonneg h0]; exact hev
    by_cases hl : a + 1 < (code.length : Int)
    · have e : cellOf code a = some (code.getD a.toNat 0 + 256 * code.getD (a.toNat + 1) 0) := if_pos ⟨hev, hl⟩
      have hlen := h.len
      obtain ⟨ad, e0, c0⟩ := h.at_ a.toNat (by omega)
      obtain ⟨ad', e1, c1⟩ := h.at_ (a.toNat + 1) (by omega)
      obtain rfl : ad = ad' := by rw [e0] at e1; exact Option.some.inj e1
      obtain ⟨x, hx⟩ : ∃ x, x = code.getD a.toNat 0 := ⟨_, rfl⟩
      obtain ⟨y, hy⟩ : ∃ y, y = code.getD (a.toNat + 1) 0 := ⟨_, rfl⟩
      have bx := h.byte a.toNat
      have by' := h.byte (a.toNat + 1)
      rw [e]
      rw [← hx] at c0 bx ⊢
      rw [← hy] at c1 by' ⊢
      obtain ⟨n, hn⟩ : ∃ n, n = code.length := ⟨_, rfl⟩
      rw [← hn] at hl hlen ⊢
      have hl2 : a < (n : Int) := by omega
      have t1 : (a + 1).toNat = a.toNat + 1 := by omega
      rw [← t1] at c1
      clear t1
      have m1 : IntKind.u16.wrap (256 * y) = 256 * y := by simp [IntKind.wrap, IntKind.bits, IntKind.signed]; omega
      have m2 : IntKind.u16.wrap (x + 256 * y) = x + 256 * y := by simp [IntKind.wrap, IntKind.bits, IntKind.signed]; omega
      have l1 : ¬ (n : Int) ≤ a + 1 := by omega
      have a1 : (0 : Int) ≤ a + 1 := by omega
      subst e0
      clear e h hx hy hn e1
      go_enter Tryd.func19, Tryd.ntmps19
      go_wp2_with (fail)
      go_quiet (fail)
      go_wp2_with (fail)
      go_ret2
      exact ⟨rfl, _, rfl⟩
    · have e : cellOf code a = none := if_neg (fun h => hl h.2)
      rw [e]
      have hlen := h.len
      obtain ⟨n, hn⟩ : ∃ n, n = code.length := ⟨_, rfl⟩
      rw [← hn] at hl hlen ⊢
      have l1 : (n : Int) ≤ a + 1 := by omega
      clear e h hn
      go_enter Tryd.func19, Tryd.ntmps19
      go_wp2_with (fail)
      go_ret2
      exact ⟨rfl, Quiet.refl _⟩
  · have d0 : ¬ a.tmod 2 = 0 := by rw [Int.tmod_eq_emod_of_nonneg h0]; exact hev
    have e : cellOf code a = none := if_neg (fun h => hev h.1)
    rw [e]
    clear e h
    go_enter Tryd.func19, Tryd.ntmps19
    go_wp2_with (fail)
    go_ret2
    exact ⟨rfl, Quiet.refl _⟩

set_option maxRecDepth 100000 in
set_option maxHeartbeats 4000000 in
theorem lleads_any (w : World) (x : FI) : Calls Tryd.prog 21 #[x.val] w fun e w' => ∃ v, e = .returned v ∧ RowU w' w.heap.size v (leadsOf x) ∧ Below w.heap.size w w' := by
  obtain ⟨a, o, p, d, n⟩ := x
  unfold FI.val leadsOf
  dsimp only
  have hc : o = 4 ∨ o = 5 ∨ o = 7 ∨ o = 8 ∨ o = 11 ∨ (o ≠ 4 ∧ o ≠ 5 ∧ o ≠ 7 ∧ o ≠ 8 ∧ o ≠ 11) := by omega
  rcases hc with rfl | rfl | rfl | rfl | rfl | ⟨n4, n5, n7, n8, n11⟩
  · go_enter Tryd.func21, Tryd.ntmps21
    go_wp2
    go_ret
    exact ⟨_, rfl, RowU.lit1 w _ p [] (by simp), b_alloc (b_alloc (Below.refl _ _) _) _⟩
  · go_enter Tryd.func21, Tryd.ntmps21
    go_wp2
    go_ret
    exact ⟨_, rfl, RowU.lit1 w _ n [p] (by simp), b_alloc (b_alloc (Below.refl _ _) _) _⟩
  · go_enter Tryd.func21, Tryd.ntmps21
    go_wp2
    go_ret
    exact ⟨_, rfl, RowU.lit1 w _ n [p] (by simp), b_alloc (b_alloc (Below.refl _ _) _) _⟩
  · go_enter Tryd.func21, Tryd.ntmps21
    go_wp2
    go_ret
    exact ⟨_, rfl, RowU.nil _ _, b_alloc (Below.refl _ _) _⟩
  · go_enter Tryd.func21, Tryd.ntmps21
    go_wp2
    go_ret
    exact ⟨_, rfl, RowU.nil _ _, b_alloc (Below.refl _ _) _⟩
  · rw [if_neg n4, if_neg (by omega), if_neg (by omega)]
    have m4 : (o == 4) = false := by simp [n4]
    have m5 : (o == 5) = false := by simp [n5]
    have m7 : (o == 7) = false := by simp [n7]
    have m8 : (o == 8) = false := by simp [n8]
    have m11 : (o == 11) = false := by simp [n11]
    clear n4 n5 n7 n8 n11
    go_enter Tryd.func21, Tryd.ntmps21
    go_wp2
    go_ret
    exact ⟨_, rfl, RowU.lit1 w _ n [] (by simp), b_alloc (b_alloc (Below.refl _ _) _) _⟩

set_option maxRecDepth 100000 in
set_option maxHeartbeats 2000000 in
theorem lin_any (w : World) (p : Int) (A : Option Addr) (n c : Nat) (C : Option Addr) (m d : Nat) (f : List FI) (x : Int) (hn : n = f.length) (h : InsIn w A f) :
    Calls Tryd.prog 20 #[.agg #[.int .u16 p, .slice A n c, .slice C m d], .int .u16 x] w fun e w' => e = .returned (.bool (fFn f x).isSome) ∧ Below w.heap.size w w' := by
  have HA := Lib.hid h
  have HN := Lib.hid hn
  have hl : n ≤ 2000000 := by rw [hn]; exact h.len
  obtain ⟨W0, hW0⟩ : ∃ V, V = w.alloc (.cells #[.int .u16 p, .slice A n c, .slice C m d] 53) := ⟨_, rfl⟩
  have B0 : Hid (Below w.heap.size w W0) := by rw [hW0]; exact b_alloc (Below.refl _ _) _
  have X0 : Hid (W0.heap[w.heap.size]? = some (.cells #[.int .u16 p, .slice A n c, .slice C m d] 53 (0, 0))) := by show _ = _; rw [hW0]; exact heap_alloc_at _ _
  clear h hn
  go_enter Tryd.func20, Tryd.ntmps20
  go_upto_region 1 with fail
  rw [← hW0]
  clear hW0
  obtain ⟨⟨p0, p1, p2⟩, _⟩ := cells3 X0.out
  go_wp2_with (fail)
  go_loopw [5] (fun i wr => ∃ k : Nat, k ≤ n ∧ i = .int .i64 k ∧ W0 = wr ∧ Hid (∀ (j : Nat) (hj : j < f.length), j < k → (f[j]).at_ ≠ x)) (fun i _ => n - (intOf i).toNat)
  case atStart => exact ⟨0, Nat.zero_le _, rfl, rfl, Lib.hid (fun j hj h => absurd h (Nat.not_lt_zero _))⟩
  case round =>
    obtain ⟨k, hk, rfl, hwe, hx⟩ := hrel
    subst hwe
    by_cases hlt : k < n
    · have hlk : k < f.length := by rw [← HN.out]; exact hlt
      obtain ⟨b, off, rfl, c0, _⟩ := (HA.out.below B0.out).at_ k hlk
      obtain ⟨y, hy⟩ : ∃ y, y = (f[k]).at_ := ⟨_, rfl⟩
      rw [← hy] at c0
      have HY := Lib.hid hy
      have hkn : (k : Int) < (n : Int) := by omega
      clear hy
      by_cases e : y = x
      · have hm : (fFn f x).isSome = true := fFn_has.2 ⟨f[k], List.getElem_mem hlk, by rw [← HY.out]; exact e⟩
        subst e
        go_wp2_with (fail)
        go_ret
        exact ⟨by first | rfl | (rw [hm]; rfl), B0.out⟩
      · have hx2 : Hid (∀ (j : Nat) (hj : j < f.length), j < k + 1 → (f[j]).at_ ≠ x) := fun j hj h => by
          by_cases ej : j = k
          · subst ej; rw [← HY.out]; exact e
          · exact hx.out j hj (by omega)
        go_wp2_with (fail)
        go_roundw
        case rel => exact ⟨k + 1, hlt, by go_num, by first | rfl | trivial, hx2⟩
        case measure => first | (simp [intOf]; done) | (simp [intOf]; omega)
    · have hm : (fFn f x).isSome = false := fFn_none.2 (fun y hy => by
        obtain ⟨j, hj, rfl⟩ := List.getElem_of_mem hy
        exact hx.out j hj (by have := HN.out; omega))
      have hkn : ¬ (k : Int) < (n : Int) := by omega
      go_wp2_with (fail)
      go_ret
      exact ⟨by first | rfl | (rw [hm]; rfl), B0.out⟩

/-- A word's three cells written, as the law's word hands them out. -/
theorem tail_l3 {P : Program} {fn : Func} {Q : Ending → World → Prop} {act : Act} {w W : World} {b : Nat} {u0 u1 u2 v0 v1 v2 : Value} (hz : W.heap[b]? = some (.cells #[v0, v1, v2] 53 (0, 0))) (hb : w.heap.size ≤ b) (hB : Below w.heap.size w W)
    (k : ∀ V, V.heap[b]? = some (.cells #[u0, u1, u2] 53 (0, 0)) → Below w.heap.size w V → bodyPost P fn Q Exit.ret act V) :
    bodyPost P fn Q Exit.ret act (World.setCell (World.setCell (World.setCell W ⟨b, 0, none⟩ u0) ⟨b, 1, none⟩ u1) ⟨b, 2, none⟩ u2) :=
  k _ (heap_set_cell (heap_set_cell (heap_set_cell hz 0 u0) 1 u1) 2 u2) (below_set1 (below_set1 (below_set1 hB hb _ _) hb _ _) hb _ _)
/-- What word answers. -/
def LWordPost (w : World) (q : Bool) (e : Ending) (w' : World) : Prop := ∃ p ia il ic ca cl cc, e = .returned (.tuple #[.agg #[.int .u16 p, .slice ia il ic, .slice ca cl cc], .bool q]) ∧ Below w.heap.size w w'

set_option maxRecDepth 100000 in
set_option maxHeartbeats 2000000 in
theorem lword_any (w : World) (A : Option Addr) (n c : Nat) (ws : List FW) (x : Int) (hn : n = ws.length) (h : FWin w A ws) (hl : n ≤ 1000000) :
    Calls Tryd.prog 18 #[.slice A n c, .int .u16 x] w fun e w' => LWordPost w (decide (∃ y ∈ ws, y.at_ = x)) e w' := by
  have HA := Lib.hid h
  have HN := Lib.hid hn
  obtain ⟨W0, hW0⟩ : ∃ V, V = w.alloc (.cells #[.int .u16 0, .slice none 0 0, .slice none 0 0] 53) := ⟨_, rfl⟩
  have B0 : Hid (Below w.heap.size w W0) := by rw [hW0]; exact b_alloc (Below.refl _ _) _
  have X0 : Hid (W0.heap[w.heap.size]? = some (.cells #[.int .u16 0, .slice none 0 0, .slice none 0 0] 53 (0, 0))) := by show _ = _; rw [hW0]; exact heap_alloc_at _ _
  clear h hn
  go_enter Tryd.func18, Tryd.ntmps18
  go_upto_region 1 with fail
  rw [← hW0]
  clear hW0
  obtain ⟨⟨p0, p1, p2⟩, y0, y1, y2⟩ := cells3 X0.out
  go_wp2_with (fail)
  go_loopw [6] (fun i wr => ∃ k : Nat, k ≤ n ∧ i = .int .i64 k ∧ W0 = wr ∧ Hid (∀ (j : Nat) (hj : j < ws.length), j < k → (ws[j]).at_ ≠ x)) (fun i _ => n - (intOf i).toNat)
  case atStart => exact ⟨0, Nat.zero_le _, rfl, rfl, Lib.hid (fun j hj h => absurd h (Nat.not_lt_zero _))⟩
  case round =>
    obtain ⟨k, hk, rfl, hwe, hx⟩ := hrel
    subst hwe
    by_cases hlt : k < n
    · have hlk : k < ws.length := by rw [← HN.out]; exact hlt
      obtain ⟨b, off, ia, ic, ca, cc, rfl, wi⟩ := (HA.out.below B0.out) k hlk
      have c0 := wi.c0
      have c1 := wi.c1
      have c2 := wi.c2
      obtain ⟨y, hy⟩ : ∃ y, y = (ws[k]).at_ := ⟨_, rfl⟩
      obtain ⟨il, hil⟩ : ∃ y, y = (ws[k]).instrs.length := ⟨_, rfl⟩
      obtain ⟨cl, hcl⟩ : ∃ y, y = (ws[k]).calls.length := ⟨_, rfl⟩
      rw [← hy] at c0
      rw [← hil] at c1
      rw [← hcl] at c2
      have HY := Lib.hid hy
      have hkn : (k : Int) < (n : Int) := by omega
      clear hy hil hcl wi
      by_cases e : y = x
      · have hm : Hid (decide (∃ y ∈ ws, y.at_ = x) = true) := decide_eq_true ⟨ws[k], List.getElem_mem hlk, by rw [← HY.out]; exact e⟩
        subst e
        go_wp2_with (fail)
        refine tail_l3 (w := w) X0.out (Nat.le_refl _) B0.out ?_
        intro V hV hB
        obtain ⟨⟨m0, m1, m2⟩, _⟩ := cells3 hV
        refine bodyPost_ret (v := .tuple #[.agg #[.int .u16 y, .slice ia il ic, .slice ca cl cc], .bool true]) (by simp [results, Tryd.results18, go_sem, m0, m1, m2]) rfl ⟨_, _, _, _, _, _, _, by rw [hm.out], hB⟩
      · have hx2 : Hid (∀ (j : Nat) (hj : j < ws.length), j < k + 1 → (ws[j]).at_ ≠ x) := fun j hj h => by
          by_cases ej : j = k
          · subst ej; rw [← HY.out]; exact e
          · exact hx.out j hj (by omega)
        go_wp2_with (fail)
        go_roundw
        case rel => exact ⟨k + 1, hlt, by go_num, by first | rfl | trivial, hx2⟩
        case measure => first | (simp [intOf]; done) | (simp [intOf]; omega)
    · have hm : Hid (decide (∃ y ∈ ws, y.at_ = x) = false) := decide_eq_false (fun ⟨y, hy, e⟩ => by
        obtain ⟨j, hj, rfl⟩ := List.getElem_of_mem hy
        exact hx.out j hj (by have := HN.out; omega) e)
      have hkn : ¬ (k : Int) < (n : Int) := by omega
      go_wp2_with (fail)
      refine tail_l3 (w := w) X0.out (Nat.le_refl _) B0.out ?_
      intro V hV hB
      obtain ⟨⟨m0, m1, m2⟩, _⟩ := cells3 hV
      refine bodyPost_ret (v := .tuple #[.agg #[.int .u16 0, .slice none 0 0, .slice none 0 0], .bool false]) (by simp [results, Tryd.results18, go_sem, m0, m1, m2]) rfl ⟨_, _, _, _, _, _, _, by rw [hm.out], hB⟩

set_option maxRecDepth 100000 in
set_option maxHeartbeats 2000000 in
theorem led_any (w : World) (p : Int) (A : Option Addr) (n c : Nat) (C : Option Addr) (m d : Nat) (f : List FI) (x : Int) (hn : n = f.length) (h : InsIn w A f) :
    Calls Tryd.prog 23 #[.agg #[.int .u16 p, .slice A n c, .slice C m d], .int .u16 x] w fun e w' => e = .returned (.bool (decide (∃ y ∈ f, x ∈ leadsOf y))) ∧ Below w.heap.size w w' := by
  have HA := Lib.hid h
  have HN := Lib.hid hn
  have hl : n ≤ 2000000 := by rw [hn]; exact h.len
  obtain ⟨W0, hW0⟩ : ∃ V, V = w.alloc (.cells #[.int .u16 p, .slice A n c, .slice C m d] 53) := ⟨_, rfl⟩
  have B0 : Hid (Below w.heap.size w W0) := by rw [hW0]; exact b_alloc (Below.refl _ _) _
  have X0 : Hid (W0.heap[w.heap.size]? = some (.cells #[.int .u16 p, .slice A n c, .slice C m d] 53 (0, 0))) := by show _ = _; rw [hW0]; exact heap_alloc_at _ _
  clear h hn
  go_enter Tryd.func23, Tryd.ntmps23
  go_upto_region 1 with fail
  rw [← hW0]
  clear hW0
  go_wp2_with (fail)
  go_loopw [5] (fun i wr => ∃ k : Nat, k ≤ n ∧ i = .int .i64 k ∧ Hid (Below W0.heap.size W0 wr) ∧ Hid (∀ (j : Nat) (hj : j < f.length), j < k → x ∉ leadsOf f[j])) (fun i _ => n - (intOf i).toNat)
  case atStart => exact ⟨0, Nat.zero_le _, rfl, Lib.hid (Below.refl _ _), Lib.hid (fun j hj h => absurd h (Nat.not_lt_zero _))⟩
  case round =>
    obtain ⟨k, hk, rfl, HB, hx⟩ := hrel
    obtain ⟨⟨p0, p1, p2⟩, _⟩ := cells3 ((HB.out.block _ (heap_lt X0.out)).trans X0.out)
    by_cases hlt : k < n
    · have hlk : k < f.length := by rw [← HN.out]; exact hlt
      obtain ⟨b, off, rfl, c0, c1, c2, c3, c4⟩ := (HA.out.below (b_then B0.out HB.out)).at_ k hlk
      obtain ⟨y, hy⟩ : ∃ y, y = f[k] := ⟨_, rfl⟩
      rw [← hy] at c0 c1 c2 c3 c4
      have HY := Lib.hid hy
      have hkn : (k : Int) < (n : Int) := by omega
      clear hy
      have LD : Hid (Calls Tryd.prog 21 #[.agg #[.int .u16 y.at_, .int .i64 y.op, .int .u16 y.operand, .int .u16 y.word, .int .u16 y.next]] wr fun e w' => ∃ v, e = .returned v ∧ RowU w' wr.heap.size v (leadsOf y) ∧ Below wr.heap.size wr w') := lleads_any wr y
      go_wp2_with (fail)
      refine LD.out.mono ?_
      rintro e W1 ⟨v, rfl, r1, b1⟩
      obtain ⟨Av, cv, rfl⟩ := r1.slice
      have HS : Hid (Calls Tryd.prog 22 #[.slice Av (leadsOf y).length cv, .int .u16 x] W1 fun e w' => e = .returned (.bool (decide (x ∈ leadsOf y))) ∧ w' = W1) := has_any W1 Av _ cv (leadsOf y) x rfl (r1.atsIn (Nat.le_trans (leads_len y) (by omega)))
      have HB1 := Lib.hid (b_then HB.out b1)
      clear LD r1 b1
      by_cases e : x ∈ leadsOf y
      · have de : decide (x ∈ leadsOf y) = true := decide_eq_true e
        rw [de] at HS
        have hm : Hid (decide (∃ y ∈ f, x ∈ leadsOf y) = true) := decide_eq_true ⟨f[k], List.getElem_mem hlk, by rw [← HY.out]; exact e⟩
        clear e de
        go_wp2_with (fail)
        refine HS.out.mono ?_
        rintro e w' ⟨rfl, hwe⟩
        subst hwe
        go_wp2_with (fail)
        go_ret
        exact ⟨by first | rfl | (rw [hm.out]; rfl), b_then B0.out HB1.out⟩
      · have de : decide (x ∈ leadsOf y) = false := decide_eq_false e
        rw [de] at HS
        have hx2 : Hid (∀ (j : Nat) (hj : j < f.length), j < k + 1 → x ∉ leadsOf f[j]) := fun j hj h => by
          by_cases ej : j = k
          · subst ej; rw [← HY.out]; exact e
          · exact hx.out j hj (by omega)
        clear e de
        go_wp2_with (fail)
        refine HS.out.mono ?_
        rintro e w' ⟨rfl, hwe⟩
        subst hwe
        go_wp2_with (fail)
        go_roundw
        case rel => exact ⟨k + 1, hlt, by go_num, HB1, hx2⟩
        case measure => first | (simp [intOf]; done) | (simp [intOf]; omega)
    · have hm : Hid (decide (∃ y ∈ f, x ∈ leadsOf y) = false) := decide_eq_false (fun ⟨y, hy, e⟩ => by
        obtain ⟨j, hj, rfl⟩ := List.getElem_of_mem hy
        exact hx.out j hj (by have := HN.out; omega) e)
      have hkn : ¬ (k : Int) < (n : Int) := by omega
      go_wp2_with (fail)
      go_ret
      exact ⟨by first | rfl | (rw [hm.out]; rfl), b_then B0.out HB.out⟩
end Go.Proofs.YtabeljpnmmfpgaaDoor
