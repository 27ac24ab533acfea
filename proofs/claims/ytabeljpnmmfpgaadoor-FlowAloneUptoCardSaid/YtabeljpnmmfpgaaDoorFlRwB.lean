/-
  The reference's flow: cell, Operand, Leads, place, there.
  The reference's flow: look, way by way. Printed by wip/rlook.py.
-/
import Derived.BigQuiet
import Derived.Test.YtabeljpnmmfpgaaDoorFlSpec
import Derived.Test.YtabeljpnmmfpgaaDoorFlConvB
namespace Go.Proofs.YtabeljpnmmfpgaaDoor
open Go.RowKit Go.MapKept Go.Maps Go.Sort
set_option linter.unusedVariables false
set_option linter.unusedSimpArgs false

set_option maxRecDepth 100000 in
set_option maxHeartbeats 4000000 in
theorem rcell_any (w : World) (A : Option Addr) (c : Nat) (code : List Int) (a : Int) (h : CodeIn w A code) (h0 : 0 ≤ a) (h1 : a < 65536) :
    Calls Tryd.prog 59 #[.slice A code.length c, .int .u16 a] w fun e w' => e = .returned (.tuple #[.int .u16 ((cellOf code a).getD 0), .bool (cellOf code a).isSome]) ∧ Quiet w w' := by
  have w0 : IntKind.i64.wrap (a + 1) = a + 1 := by simp [IntKind.wrap, IntKind.bits, IntKind.signed]; omega
  by_cases hev : a % 2 = 0
  · have d0 : a.tmod 2 = 0 := by rw [Int.tmod_eq_emod_of_nonneg h0]; exact hev
    by_cases hl : a + 1 < (code.length : Int)
    · have e : cellOf code a = some (code.getD a.toNat 0 + 256 * code.getD (a.toNat + 1) 0) := if_pos ⟨hev, hl⟩
      have hlen := h.len
      obtain ⟨ad, e0, c0⟩ := h.at_ a.toNat (by omega)
      obtain ⟨ad', e1, c1⟩ := h.at_ (a.toNat + 1) (by omega)
      obtain rfl : ad = ad' := by rw [e0] at e1; exact Option.some.inj e1
      obtain ⟨x, hx⟩ : ∃ x, x = code.getD a.toNat 0 := ⟨_, rfl⟩
      obtain ⟨y, hy⟩ : ∃ y, y = code.getD (a.toNat + 1) 0 := ⟨_, rfl⟩
      have bx := h.byte a.toNat
      have by' := h.byte (a.toNat + 1)
      rw [e]
      rw [← hx] at c0 bx ⊢
      rw [← hy] at c1 by' ⊢
      obtain ⟨n, hn⟩ : ∃ n, n = code.length := ⟨_, rfl⟩
      rw [← hn] at hl hlen ⊢
      have hl2 : a < (n : Int) := by omega
      have t1 : (a + 1).toNat = a.toNat + 1 := by omega
      rw [← t1] at c1
      clear t1
      have m1 : IntKind.u16.wrap (256 * y) = 256 * y := by simp [IntKind.wrap, IntKind.bits, IntKind.signed]; omega
      have m2 : IntKind.u16.wrap (x + 256 * y) = x + 256 * y := by simp [IntKind.wrap, IntKind.bits, IntKind.signed]; omega
      have l1 : ¬ (n : Int) ≤ a + 1 := by omega
      have a1 : (0 : Int) ≤ a + 1 := by omega
      subst e0
      clear e h hx hy hn e1
      go_enter Tryd.func59, Tryd.ntmps59
      go_wp2_with (fail)
      go_quiet (fail)
      go_wp2_with (fail)
      go_ret2
      exact ⟨rfl, _, rfl⟩
    · have e : cellOf code a = none := if_neg (fun h => hl h.2)
      rw [e]
      have hlen := h.len
      obtain ⟨n, hn⟩ : ∃ n, n = code.length := ⟨_, rfl⟩
      rw [← hn] at hl hlen ⊢
      have l1 : (n : Int) ≤ a + 1 := by omega
      clear e h hn
      go_enter Tryd.func59, Tryd.ntmps59
      go_wp2_with (fail)
      go_ret2
      exact ⟨rfl, Quiet.refl _⟩
  · have d0 : ¬ a.tmod 2 = 0 := by rw [Int.tmod_eq_emod_of_nonneg h0]; exact hev
    have e : cellOf code a = none := if_neg (fun h => hev h.1)
    rw [e]
    clear e h
    go_enter Tryd.func59, Tryd.ntmps59
    go_wp2_with (fail)
    go_ret2
    exact ⟨rfl, Quiet.refl _⟩

set_option maxRecDepth 100000 in
set_option maxHeartbeats 4000000 in
theorem roper_any (w : World) (op : Int) : Calls Tryd.prog 64 #[.int .i64 op] w fun e w' => e = .returned (.bool (hasOperand op)) ∧ w' = w := by
  have hq : hasOperand op = (op == 3 || op == 4 || op == 5 || op == 7) := rfl
  rw [hq]
  clear hq
  by_cases h3 : op = 3
  · subst h3
    go_enter Tryd.func64, Tryd.ntmps64
    go_wp2_with (fail)
    go_ret
    exact ⟨rfl, rfl⟩
  · have b3 : (op == 3) = false := by simpa using h3
    by_cases h4 : op = 4
    · subst h4
      go_enter Tryd.func64, Tryd.ntmps64
      go_wp2_with (fail)
      go_ret
      exact ⟨rfl, rfl⟩
    · have b4 : (op == 4) = false := by simpa using h4
      by_cases h5 : op = 5
      · subst h5
        go_enter Tryd.func64, Tryd.ntmps64
        go_wp2_with (fail)
        go_ret
        exact ⟨rfl, rfl⟩
      · have b5 : (op == 5) = false := by simpa using h5
        rw [b3, b4, b5]
        go_enter Tryd.func64, Tryd.ntmps64
        go_wp2_with (fail)
        go_ret
        exact ⟨rfl, rfl⟩

/-! ### places -/
def plc (l : List FI) (a : Int) : Nat := (l.takeWhile fun y => decide (y.at_ < a)).length
theorem plc_eq : ∀ (l : List FI) (a : Int) (k : Nat), k ≤ l.length → (∀ (j : Nat) (hj : j < l.length), j < k → (l[j]).at_ < a) → (∀ (hk : k < l.length), ¬ (l[k]).at_ < a) → plc l a = k
  | [], a, k, hk, _, _ => by simp at hk; subst hk; rfl
  | y :: l, a, 0, _, _, h2 => by
    have : ¬ y.at_ < a := h2 (by simp)
    unfold plc
    rw [List.takeWhile_cons, if_neg (by simpa using this)]
    rfl
  | y :: l, a, k + 1, hk, h1, h2 => by
    have hy : y.at_ < a := h1 0 (by simp) (by omega)
    have ih := plc_eq l a k (by simpa using hk) (fun j hj hlt => by have := h1 (j + 1) (by simpa using hj) (by omega); simpa using this) (fun hk' => by have := h2 (by simpa using hk'); simpa using this)
    unfold plc at ih ⊢
    rw [List.takeWhile_cons, if_pos (by simpa using hy), List.length_cons, ih]
theorem plc_le : ∀ (l : List FI) (a : Int), plc l a ≤ l.length
  | [], a => by simp [plc]
  | y :: l, a => by
    have := plc_le l a
    unfold plc at this ⊢
    rw [List.takeWhile_cons]
    split <;> simp <;> omega
theorem plc_lt : ∀ (l : List FI) (a : Int) (j : Nat) (hj : j < l.length), j < plc l a → (l[j]).at_ < a
  | y :: l, a, 0, _, h => by
    unfold plc at h
    rw [List.takeWhile_cons] at h
    split at h
    · rename_i hy; simpa using hy
    · simp at h
  | y :: l, a, j + 1, hj, h => by
    have ih := plc_lt l a j (by simpa using hj)
    unfold plc at h ih
    rw [List.takeWhile_cons] at h
    split at h
    · simpa using ih (by simpa using h)
    · simp at h
theorem plc_ge : ∀ (l : List FI) (a : Int) (hj : plc l a < l.length), ¬ (l[plc l a]).at_ < a
  | y :: l, a, hj => by
    by_cases hy : y.at_ < a
    · have e : plc (y :: l) a = plc l a + 1 := by unfold plc; rw [List.takeWhile_cons, if_pos (by simpa using hy)]; rfl
      have h2 : plc l a < l.length := by rw [e] at hj; simpa using hj
      have := plc_ge l a h2
      simp only [e, List.getElem_cons_succ]
      exact this
    · have e : plc (y :: l) a = 0 := by unfold plc; rw [List.takeWhile_cons, if_neg (by simpa using hy)]; rfl
      simp only [e, List.getElem_cons_zero]
      exact hy
/-- In a list that rises: the instruction is there just if the place's own is it. -/
theorem plc_there {l : List FI} (hs : l.Pairwise (fun a b => a.at_ < b.at_)) (a : Int) : (fFn l a).isSome = true ↔ ∃ h : plc l a < l.length, (l[plc l a]).at_ = a := by
  constructor
  · intro h
    have h2 : ¬ ((fFn l a).isSome = false) := by rw [h]; simp
    rw [fFn_none] at h2
    simp only [Classical.not_forall, Classical.not_not] at h2
    obtain ⟨y, hy, e⟩ := h2
    obtain ⟨j, hj, rfl⟩ := List.getElem_of_mem hy
    have : plc l a = j := plc_eq l a j (by omega) (fun i hi hlt => by
      have := List.pairwise_iff_getElem.1 hs i j hi hj hlt
      omega) (fun _ => by omega)
    exact ⟨by omega, by simp only [this]; exact e⟩
  · rintro ⟨h, e⟩
    cases hq : (fFn l a).isSome with
    | true => rfl
    | false => exact absurd e (fFn_none.1 hq _ (List.getElem_mem h))

set_option maxRecDepth 100000 in
set_option maxHeartbeats 4000000 in
theorem rplace_any (w : World) (A : Option Addr) (n c : Nat) (l : List FI) (a : Int) (hn : n = l.length) (h : InsIn w A l) :
    Calls Tryd.prog 62 #[.slice A n c, .int .u16 a] w fun e w' => e = .returned (.int .i64 (plc l a : Int)) ∧ w' = w := by
  have HA := Lib.hid h
  have HN := Lib.hid hn
  have hl : n ≤ 2000000 := by rw [hn]; exact h.len
  clear h hn
  go_enter Tryd.func62, Tryd.ntmps62
  go_wp2_with (fail)
  go_loopw [5] (fun i wr => ∃ k : Nat, k ≤ n ∧ i = .int .i64 k ∧ wr = w ∧ Hid (∀ (j : Nat) (hj : j < l.length), j < k → (l[j]).at_ < a)) (fun i _ => n - (intOf i).toNat)
  case atStart => exact ⟨0, Nat.zero_le _, rfl, rfl, Lib.hid (fun j hj h => by omega)⟩
  case round =>
    obtain ⟨k, hk, rfl, rfl, hx⟩ := hrel
    by_cases hlt : k < n
    · have hlk : k < l.length := by rw [← HN.out]; exact hlt
      obtain ⟨b, off, rfl, c0, _⟩ := HA.out.at_ k hlk
      obtain ⟨y, hy⟩ : ∃ y, y = (l[k]).at_ := ⟨_, rfl⟩
      rw [← hy] at c0
      have HY := Lib.hid hy
      have hkn : (k : Int) < (n : Int) := by omega
      clear hy
      by_cases e : y < a
      · have hx2 : Hid (∀ (j : Nat) (hj : j < l.length), j < k + 1 → (l[j]).at_ < a) := fun j hj h => by
          by_cases e2 : j = k
          · subst e2; rw [← HY.out]; exact e
          · exact hx.out j hj (by omega)
        have dy : decide (y < a) = true := by simpa using e
        go_wp2_with (fail)
        go_roundw
        case rel => exact ⟨k + 1, hlt, by go_num, by first | rfl | trivial, hx2⟩
        case measure => first | (simp [intOf]; done) | (simp [intOf]; omega)
      · have dy : decide (y < a) = false := by simpa using e
        have fin : Hid (plc l a = k) := plc_eq l a k (by omega) hx.out (fun hk' => by rw [← HY.out]; exact e)
        go_wp2_with (fail)
        go_ret
        exact ⟨by rw [fin.out]; rfl, rfl⟩
    · have hkn : ¬ (k : Int) < (n : Int) := by omega
      have fin : Hid (plc l a = k) := plc_eq l a k (by have := HN.out; omega) hx.out (fun hk' => by have := HN.out; omega)
      go_wp2_with (fail)
      go_ret
      exact ⟨by rw [fin.out]; rfl, rfl⟩

set_option maxRecDepth 100000 in
set_option maxHeartbeats 4000000 in
theorem rthere_any (w : World) (A : Option Addr) (n c : Nat) (l : List FI) (a : Int) (hn : n = l.length) (h : InsIn w A l) (hs : l.Pairwise (fun a b => a.at_ < b.at_)) :
    Calls Tryd.prog 60 #[.slice A n c, .int .u16 a] w fun e w' => e = .returned (.bool (fFn l a).isSome) ∧ w' = w := by
  have PL := Lib.hid (rplace_any w A n c l a hn h)
  have TH := Lib.hid (plc_there hs a)
  have hl : n ≤ 2000000 := by rw [hn]; exact h.len
  have HA := Lib.hid h
  have HN := Lib.hid hn
  have le := plc_le l a
  obtain ⟨k, hk⟩ : ∃ k, k = plc l a := ⟨_, rfl⟩
  rw [← hk] at PL le
  obtain ⟨q, hq⟩ : ∃ q, q = (fFn l a).isSome := ⟨_, rfl⟩
  rw [← hq]
  have HK := Lib.hid hk
  have HQ := Lib.hid hq
  rw [← hn] at le
  clear h hn hs hk hq
  by_cases hlt : k < n
  · have hlk : k < l.length := by rw [← HN.out]; exact hlt
    obtain ⟨b, off, rfl, c0, _⟩ := HA.out.at_ k hlk
    obtain ⟨y, hy⟩ : ∃ y, y = (l[k]).at_ := ⟨_, rfl⟩
    rw [← hy] at c0
    have fin : Hid (q = (y == a)) := by
      show q = (y == a)
      rw [HQ.out, Bool.eq_iff_iff, TH.out, hy]
      simp only [← HK.out, beq_iff_eq]
      exact ⟨fun ⟨_, e⟩ => e, fun e => ⟨hlk, e⟩⟩
    have hkn : (k : Int) < (n : Int) := by omega
    clear hy
    rw [fin.out]
    go_enter Tryd.func60, Tryd.ntmps60
    go_wp2_with (fail)
    refine PL.out.mono ?_
    rintro e w' ⟨rfl, rfl⟩
    go_wp2_with (fail)
    go_ret
    exact ⟨rfl, rfl⟩
  · have fin : Hid (q = false) := by
      show q = false
      rw [HQ.out]
      cases hq2 : (fFn l a).isSome with
      | false => rfl
      | true =>
        obtain ⟨h1, _⟩ := TH.out.1 hq2
        rw [← HK.out] at h1
        have := HN.out
        omega
    have hkn : ¬ (k : Int) < (n : Int) := by omega
    rw [fin.out]
    go_enter Tryd.func60, Tryd.ntmps60
    go_wp2_with (fail)
    refine PL.out.mono ?_
    rintro e w' ⟨rfl, rfl⟩
    go_wp2_with (fail)
    go_ret
    exact ⟨rfl, rfl⟩
end Go.Proofs.YtabeljpnmmfpgaaDoor

namespace Go.Proofs.YtabeljpnmmfpgaaDoor
open Go.RowKit Go.MapKept
set_option linter.unusedVariables false
set_option linter.unusedSimpArgs false

/-- The result's own cells stand as they were laid. -/
def ZeroR (w W : World) : Prop := W.heap[w.heap.size]? = some (.cells #[.int .u16 0, .int .i64 0, .int .u16 0, .int .u16 0, .int .u16 0] 91 (0, 0))
theorem ZeroR.start (w : World) : ZeroR w (w.alloc (.cells #[.int .u16 0, .int .i64 0, .int .u16 0, .int .u16 0, .int .u16 0] 91)) := heap_alloc_at w _
theorem ZeroR.alloc {w W : World} (h : ZeroR w W) (o : Obj) : ZeroR w (W.alloc o) := heap_alloc_old h
theorem ZeroR.drewN {w W : World} (h : ZeroR w W) (n : Nat) : ZeroR w (W.drewN n) := h
theorem ZeroR.set {w W : World} (h : ZeroR w W) {g i : Nat} (hg : w.heap.size + 1 ≤ g) (v : Value) : ZeroR w (W.setCell ⟨g, i, none⟩ v) := (heap_set_far (by omega)).trans h
theorem tail_r {P : Program} {f : Func} {Q : Ending → World → Prop} {a : Act} {w W : World} {u0 u1 u2 u3 u4 : Value} (hz : ZeroR w W) (hB : Below w.heap.size w W)
    (k : ∀ V, V.heap[w.heap.size]? = some (.cells #[u0, u1, u2, u3, u4] 91 (0, 0)) → Below w.heap.size w V → bodyPost P f Q Exit.ret a V) :
    bodyPost P f Q Exit.ret a (World.setCell (World.setCell (World.setCell (World.setCell (World.setCell W ⟨w.heap.size, 0, none⟩ u0) ⟨w.heap.size, 1, none⟩ u1) ⟨w.heap.size, 2, none⟩ u2) ⟨w.heap.size, 3, none⟩ u3) ⟨w.heap.size, 4, none⟩ u4) :=
  k _ (set5 hz u0 u1 u2 u3 u4) (below5 hB (Nat.le_refl _) u0 u1 u2 u3 u4)
theorem tail_r2 {P : Program} {f : Func} {Q : Ending → World → Prop} {a : Act} {w W : World} {o : Obj} {u0 u1 u2 u3 u4 : Value} (hz : ZeroR w W) (hB : Below w.heap.size w W)
    (k : ∀ V, V.heap[w.heap.size]? = some (.cells #[u0, u1, u2, u3, u4] 91 (0, 0)) → Below w.heap.size w V → bodyPost P f Q Exit.ret a V) :
    bodyPost P f Q Exit.ret a (World.alloc (World.setCell (World.setCell (World.setCell (World.setCell (World.setCell W ⟨w.heap.size, 0, none⟩ u0) ⟨w.heap.size, 1, none⟩ u1) ⟨w.heap.size, 2, none⟩ u2) ⟨w.heap.size, 3, none⟩ u3) ⟨w.heap.size, 4, none⟩ u4) o) :=
  k _ (heap_alloc_old (set5 hz u0 u1 u2 u3 u4)) (b_alloc (below5 hB (Nat.le_refl _) u0 u1 u2 u3 u4) o)

/-- What the walk of look calls. -/
def LookEnv (w : World) (A : Option Addr) (c : Nat) (code : List Int) : Prop := ∀ W a, Below w.heap.size w W → 0 ≤ a → a < 65536 → Calls Tryd.prog 59 #[.slice A code.length c, .int .u16 a] W fun e w' => e = .returned (.tuple #[.int .u16 ((cellOf code a).getD 0), .bool (cellOf code a).isSome]) ∧ Quiet W w'
theorem LookEnv.mk' {w : World} {A : Option Addr} {c : Nat} {code : List Int} (h : CodeIn w A code) : LookEnv w A c code := fun W a hW h0 h1 => rcell_any W A c code a (h.below hW) h0 h1

set_option maxRecDepth 100000 in
set_option maxHeartbeats 4000000 in
theorem rl_fall (w : World) (A : Option Addr) (c : Nat) (code : List Int) (a : Int) (E : LookEnv w A c code) (h0 : 0 ≤ a) (h1 : a < 65536) (hc : cellOf code a = none) :
    Calls Tryd.prog 61 #[.slice A code.length c, .int .u16 a] w fun e w' => e = .returned (.tuple #[FI.zero.val, .int .i64 162]) ∧ Below w.heap.size w w' := by
  have EH : Hid (LookEnv w A c code) := E
  clear E
  go_enter Tryd.func61, Tryd.ntmps61
  go_wp2_with (first
    | (go_at_call 59; refine (EH.out _ _ (by repeat (first | exact Below.refl _ _ | apply b_alloc | apply b_drewN | (refine below_set1 ?_ (by simp; done) _ _))) (by first | assumption | exact (wrap16_range _).1) (by first | assumption | exact (wrap16_range _).2)).mono ?_; rintro e W ⟨rfl, k, rfl⟩)
    | (go_at_call 64; refine (roper_any _ _).mono ?_; rintro e W ⟨rfl, rfl⟩))
  all_goals first
    | (refine tail_r ?hz ?hb ?k
       case hz => repeat (first | exact ZeroR.start _ | apply ZeroR.alloc | apply ZeroR.drewN | (refine ZeroR.set ?_ (by simp; done) _))
       case hb => repeat (first | exact Below.refl _ _ | apply b_alloc | apply b_drewN | (refine below_set1 ?_ (by simp; done) _ _))
       case k =>
         intro V hb hB
         obtain ⟨⟨g0, g1, g2, g3, g4⟩, _⟩ := cells5 hb
         clear hb
         refine bodyPost_ret (v := .tuple #[.agg #[.int .u16 (0), .int .i64 (0), .int .u16 (0), .int .u16 (0), .int .u16 (0)], .int .i64 162]) (by simp [results, Tryd.results61, go_sem, g0, g1, g2, g3, g4]) rfl ⟨rfl, hB⟩)
    | (exfalso; omega)

set_option maxRecDepth 100000 in
set_option maxHeartbeats 4000000 in
theorem rl_none (w : World) (A : Option Addr) (c : Nat) (code : List Int) (a : Int) (t : Int) (E : LookEnv w A c code) (h0 : 0 ≤ a) (h1 : a < 65536) (hb : 0 ≤ t ∧ t < 65536) (hc : cellOf code a = some t) (hd : cellOf code t = none) :
    Calls Tryd.prog 61 #[.slice A code.length c, .int .u16 a] w fun e w' => e = .returned (.tuple #[FI.zero.val, .int .i64 161]) ∧ Below w.heap.size w w' := by
  have EH : Hid (LookEnv w A c code) := E
  obtain ⟨t0, t1⟩ := hb
  clear E
  go_enter Tryd.func61, Tryd.ntmps61
  go_wp2_with (first
    | (go_at_call 59; refine (EH.out _ _ (by repeat (first | exact Below.refl _ _ | apply b_alloc | apply b_drewN | (refine below_set1 ?_ (by simp; done) _ _))) (by first | assumption | exact (wrap16_range _).1) (by first | assumption | exact (wrap16_range _).2)).mono ?_; rintro e W ⟨rfl, k, rfl⟩)
    | (go_at_call 64; refine (roper_any _ _).mono ?_; rintro e W ⟨rfl, rfl⟩))
  all_goals first
    | (refine tail_r ?hz ?hb ?k
       case hz => repeat (first | exact ZeroR.start _ | apply ZeroR.alloc | apply ZeroR.drewN | (refine ZeroR.set ?_ (by simp; done) _))
       case hb => repeat (first | exact Below.refl _ _ | apply b_alloc | apply b_drewN | (refine below_set1 ?_ (by simp; done) _ _))
       case k =>
         intro V hb hB
         obtain ⟨⟨g0, g1, g2, g3, g4⟩, _⟩ := cells5 hb
         clear hb
         refine bodyPost_ret (v := .tuple #[.agg #[.int .u16 (0), .int .i64 (0), .int .u16 (0), .int .u16 (0), .int .u16 (0)], .int .i64 161]) (by simp [results, Tryd.results61, go_sem, g0, g1, g2, g3, g4]) rfl ⟨rfl, hB⟩)
    | (exfalso; omega)

set_option maxRecDepth 100000 in
set_option maxHeartbeats 4000000 in
theorem rl_bad (w : World) (A : Option Addr) (c : Nat) (code : List Int) (a : Int) (t o : Int) (E : LookEnv w A c code) (h0 : 0 ≤ a) (h1 : a < 65536) (hb : 0 ≤ t ∧ t < 65536) (hc : cellOf code a = some t) (hd : cellOf code t = some o) (hr : o < 1 ∨ 64 ≤ o) :
    Calls Tryd.prog 61 #[.slice A code.length c, .int .u16 a] w fun e w' => e = .returned (.tuple #[FI.zero.val, .int .i64 161]) ∧ Below w.heap.size w w' := by
  have EH : Hid (LookEnv w A c code) := E
  obtain ⟨t0, t1⟩ := hb
  clear E
  go_enter Tryd.func61, Tryd.ntmps61
  go_wp2_with (first
    | (go_at_call 59; refine (EH.out _ _ (by repeat (first | exact Below.refl _ _ | apply b_alloc | apply b_drewN | (refine below_set1 ?_ (by simp; done) _ _))) (by first | assumption | exact (wrap16_range _).1) (by first | assumption | exact (wrap16_range _).2)).mono ?_; rintro e W ⟨rfl, k, rfl⟩)
    | (go_at_call 64; refine (roper_any _ _).mono ?_; rintro e W ⟨rfl, rfl⟩))
  all_goals first
    | (refine tail_r ?hz ?hb ?k
       case hz => repeat (first | exact ZeroR.start _ | apply ZeroR.alloc | apply ZeroR.drewN | (refine ZeroR.set ?_ (by simp; done) _))
       case hb => repeat (first | exact Below.refl _ _ | apply b_alloc | apply b_drewN | (refine below_set1 ?_ (by simp; done) _ _))
       case k =>
         intro V hb hB
         obtain ⟨⟨g0, g1, g2, g3, g4⟩, _⟩ := cells5 hb
         clear hb
         refine bodyPost_ret (v := .tuple #[.agg #[.int .u16 (0), .int .i64 (0), .int .u16 (0), .int .u16 (0), .int .u16 (0)], .int .i64 161]) (by simp [results, Tryd.results61, go_sem, g0, g1, g2, g3, g4]) rfl ⟨rfl, hB⟩)
    | (exfalso; omega)

set_option maxRecDepth 100000 in
set_option maxHeartbeats 4000000 in
theorem rl_enter (w : World) (A : Option Addr) (c : Nat) (code : List Int) (a : Int) (t : Int) (E : LookEnv w A c code) (h0 : 0 ≤ a) (h1 : a < 65536) (hb : 0 ≤ t ∧ t < 65536) (hc : cellOf code a = some t) (hd : cellOf code t = some 1) :
    Calls Tryd.prog 61 #[.slice A code.length c, .int .u16 a] w fun e w' => e = .returned (.tuple #[(⟨a, 1, 0, t, IntKind.u16.wrap (a + 2)⟩ : FI).val, .int .i64 0]) ∧ Below w.heap.size w w' := by
  have EH : Hid (LookEnv w A c code) := E
  obtain ⟨t0, t1⟩ := hb
  have ho : hasOperand 1 = false := rfl
  clear E
  go_enter Tryd.func61, Tryd.ntmps61
  go_wp2_with (first
    | (go_at_call 59; refine (EH.out _ _ (by repeat (first | exact Below.refl _ _ | apply b_alloc | apply b_drewN | (refine below_set1 ?_ (by simp; done) _ _))) (by first | assumption | exact (wrap16_range _).1) (by first | assumption | exact (wrap16_range _).2)).mono ?_; rintro e W ⟨rfl, k, rfl⟩)
    | (go_at_call 64; refine (roper_any _ _).mono ?_; rintro e W ⟨rfl, rfl⟩))
  all_goals first
    | (refine tail_r2 ?hz ?hb ?k
       case hz => repeat (first | exact ZeroR.start _ | apply ZeroR.alloc | apply ZeroR.drewN | (refine ZeroR.set ?_ (by simp; done) _))
       case hb => repeat (first | exact Below.refl _ _ | apply b_alloc | apply b_drewN | (refine below_set1 ?_ (by simp; done) _ _))
       case k =>
         intro V hb hB
         obtain ⟨⟨g0, g1, g2, g3, g4⟩, _⟩ := cells5 hb
         clear hb
         refine bodyPost_ret (v := .tuple #[.agg #[.int .u16 (a), .int .i64 (1), .int .u16 (0), .int .u16 (t), .int .u16 (IntKind.u16.wrap (a + 2))], .int .i64 0]) (by simp [results, Tryd.results61, go_sem, g0, g1, g2, g3, g4]) rfl ⟨rfl, hB⟩)
    | (exfalso; omega)

set_option maxRecDepth 100000 in
set_option maxHeartbeats 4000000 in
theorem rl_const (w : World) (A : Option Addr) (c : Nat) (code : List Int) (a : Int) (t v : Int) (E : LookEnv w A c code) (h0 : 0 ≤ a) (h1 : a < 65536) (hb : 0 ≤ t ∧ t < 65536) (hc : cellOf code a = some t) (hd : cellOf code t = some 2) (hv : cellOf code (IntKind.u16.wrap (t + 2)) = some v) :
    Calls Tryd.prog 61 #[.slice A code.length c, .int .u16 a] w fun e w' => e = .returned (.tuple #[(⟨a, 2, v, t, IntKind.u16.wrap (a + 2)⟩ : FI).val, .int .i64 0]) ∧ Below w.heap.size w w' := by
  have EH : Hid (LookEnv w A c code) := E
  obtain ⟨t0, t1⟩ := hb
  have ho : hasOperand 2 = false := rfl
  clear E
  go_enter Tryd.func61, Tryd.ntmps61
  go_wp2_with (first
    | (go_at_call 59; refine (EH.out _ _ (by repeat (first | exact Below.refl _ _ | apply b_alloc | apply b_drewN | (refine below_set1 ?_ (by simp; done) _ _))) (by first | assumption | exact (wrap16_range _).1) (by first | assumption | exact (wrap16_range _).2)).mono ?_; rintro e W ⟨rfl, k, rfl⟩)
    | (go_at_call 64; refine (roper_any _ _).mono ?_; rintro e W ⟨rfl, rfl⟩))
  all_goals first
    | (refine tail_r ?hz ?hb ?k
       case hz => repeat (first | exact ZeroR.start _ | apply ZeroR.alloc | apply ZeroR.drewN | (refine ZeroR.set ?_ (by simp; done) _))
       case hb => repeat (first | exact Below.refl _ _ | apply b_alloc | apply b_drewN | (refine below_set1 ?_ (by simp; done) _ _))
       case k =>
         intro V hb hB
         obtain ⟨⟨g0, g1, g2, g3, g4⟩, _⟩ := cells5 hb
         clear hb
         refine bodyPost_ret (v := .tuple #[.agg #[.int .u16 (a), .int .i64 (2), .int .u16 (v), .int .u16 (t), .int .u16 (IntKind.u16.wrap (a + 2))], .int .i64 0]) (by simp [results, Tryd.results61, go_sem, g0, g1, g2, g3, g4]) rfl ⟨rfl, hB⟩)
    | (exfalso; omega)

set_option maxRecDepth 100000 in
set_option maxHeartbeats 4000000 in
theorem rl_const0 (w : World) (A : Option Addr) (c : Nat) (code : List Int) (a : Int) (t : Int) (E : LookEnv w A c code) (h0 : 0 ≤ a) (h1 : a < 65536) (hb : 0 ≤ t ∧ t < 65536) (hc : cellOf code a = some t) (hd : cellOf code t = some 2) (hv : cellOf code (IntKind.u16.wrap (t + 2)) = none) :
    Calls Tryd.prog 61 #[.slice A code.length c, .int .u16 a] w fun e w' => e = .returned (.tuple #[FI.zero.val, .int .i64 162]) ∧ Below w.heap.size w w' := by
  have EH : Hid (LookEnv w A c code) := E
  obtain ⟨t0, t1⟩ := hb
  have ho : hasOperand 2 = false := rfl
  clear E
  go_enter Tryd.func61, Tryd.ntmps61
  go_wp2_with (first
    | (go_at_call 59; refine (EH.out _ _ (by repeat (first | exact Below.refl _ _ | apply b_alloc | apply b_drewN | (refine below_set1 ?_ (by simp; done) _ _))) (by first | assumption | exact (wrap16_range _).1) (by first | assumption | exact (wrap16_range _).2)).mono ?_; rintro e W ⟨rfl, k, rfl⟩)
    | (go_at_call 64; refine (roper_any _ _).mono ?_; rintro e W ⟨rfl, rfl⟩))
  all_goals first
    | (refine tail_r ?hz ?hb ?k
       case hz => repeat (first | exact ZeroR.start _ | apply ZeroR.alloc | apply ZeroR.drewN | (refine ZeroR.set ?_ (by simp; done) _))
       case hb => repeat (first | exact Below.refl _ _ | apply b_alloc | apply b_drewN | (refine below_set1 ?_ (by simp; done) _ _))
       case k =>
         intro V hb hB
         obtain ⟨⟨g0, g1, g2, g3, g4⟩, _⟩ := cells5 hb
         clear hb
         refine bodyPost_ret (v := .tuple #[.agg #[.int .u16 (0), .int .i64 (0), .int .u16 (0), .int .u16 (0), .int .u16 (0)], .int .i64 162]) (by simp [results, Tryd.results61, go_sem, g0, g1, g2, g3, g4]) rfl ⟨rfl, hB⟩)
    | (exfalso; omega)

set_option maxRecDepth 100000 in
set_option maxHeartbeats 4000000 in
theorem rl_plain (w : World) (A : Option Addr) (c : Nat) (code : List Int) (a : Int) (t o : Int) (E : LookEnv w A c code) (h0 : 0 ≤ a) (h1 : a < 65536) (hb : 0 ≤ t ∧ t < 65536) (hc : cellOf code a = some t) (hd : cellOf code t = some o) (o0 : 1 ≤ o) (o1 : o < 64) (n1 : o ≠ 1) (n2 : o ≠ 2) (ho : hasOperand o = false) :
    Calls Tryd.prog 61 #[.slice A code.length c, .int .u16 a] w fun e w' => e = .returned (.tuple #[(⟨a, o, 0, 0, IntKind.u16.wrap (a + 2)⟩ : FI).val, .int .i64 0]) ∧ Below w.heap.size w w' := by
  have EH : Hid (LookEnv w A c code) := E
  obtain ⟨t0, t1⟩ := hb
  have m1 : (o == 1) = false := by simp [n1]
  have m2 : (o == 2) = false := by simp [n2]
  clear n1 n2
  clear E
  go_enter Tryd.func61, Tryd.ntmps61
  go_wp2_with (first
    | (go_at_call 59; refine (EH.out _ _ (by repeat (first | exact Below.refl _ _ | apply b_alloc | apply b_drewN | (refine below_set1 ?_ (by simp; done) _ _))) (by first | assumption | exact (wrap16_range _).1) (by first | assumption | exact (wrap16_range _).2)).mono ?_; rintro e W ⟨rfl, k, rfl⟩)
    | (go_at_call 64; refine (roper_any _ _).mono ?_; rintro e W ⟨rfl, rfl⟩))
  all_goals first
    | (refine tail_r2 ?hz ?hb ?k
       case hz => repeat (first | exact ZeroR.start _ | apply ZeroR.alloc | apply ZeroR.drewN | (refine ZeroR.set ?_ (by simp; done) _))
       case hb => repeat (first | exact Below.refl _ _ | apply b_alloc | apply b_drewN | (refine below_set1 ?_ (by simp; done) _ _))
       case k =>
         intro V hb hB
         obtain ⟨⟨g0, g1, g2, g3, g4⟩, _⟩ := cells5 hb
         clear hb
         refine bodyPost_ret (v := .tuple #[.agg #[.int .u16 (a), .int .i64 (o), .int .u16 (0), .int .u16 (0), .int .u16 (IntKind.u16.wrap (a + 2))], .int .i64 0]) (by simp [results, Tryd.results61, go_sem, g0, g1, g2, g3, g4]) rfl ⟨rfl, hB⟩)
    | (exfalso; omega)

set_option maxRecDepth 100000 in
set_option maxHeartbeats 4000000 in
theorem rl_gone3 (w : World) (A : Option Addr) (c : Nat) (code : List Int) (a : Int) (t : Int) (E : LookEnv w A c code) (h0 : 0 ≤ a) (h1 : a < 65536) (hb : 0 ≤ t ∧ t < 65536) (hc : cellOf code a = some t) (hd : cellOf code t = some 3) (hv : cellOf code (IntKind.u16.wrap (a + 2)) = none) :
    Calls Tryd.prog 61 #[.slice A code.length c, .int .u16 a] w fun e w' => e = .returned (.tuple #[FI.zero.val, .int .i64 162]) ∧ Below w.heap.size w w' := by
  have EH : Hid (LookEnv w A c code) := E
  obtain ⟨t0, t1⟩ := hb
  have ho : hasOperand 3 = true := rfl
  clear E
  go_enter Tryd.func61, Tryd.ntmps61
  go_wp2_with (first
    | (go_at_call 59; refine (EH.out _ _ (by repeat (first | exact Below.refl _ _ | apply b_alloc | apply b_drewN | (refine below_set1 ?_ (by simp; done) _ _))) (by first | assumption | exact (wrap16_range _).1) (by first | assumption | exact (wrap16_range _).2)).mono ?_; rintro e W ⟨rfl, k, rfl⟩)
    | (go_at_call 64; refine (roper_any _ _).mono ?_; rintro e W ⟨rfl, rfl⟩))
  all_goals first
    | (refine tail_r ?hz ?hb ?k
       case hz => repeat (first | exact ZeroR.start _ | apply ZeroR.alloc | apply ZeroR.drewN | (refine ZeroR.set ?_ (by simp; done) _))
       case hb => repeat (first | exact Below.refl _ _ | apply b_alloc | apply b_drewN | (refine below_set1 ?_ (by simp; done) _ _))
       case k =>
         intro V hb hB
         obtain ⟨⟨g0, g1, g2, g3, g4⟩, _⟩ := cells5 hb
         clear hb
         refine bodyPost_ret (v := .tuple #[.agg #[.int .u16 (0), .int .i64 (0), .int .u16 (0), .int .u16 (0), .int .u16 (0)], .int .i64 162]) (by simp [results, Tryd.results61, go_sem, g0, g1, g2, g3, g4]) rfl ⟨rfl, hB⟩)
    | (exfalso; omega)

set_option maxRecDepth 100000 in
set_option maxHeartbeats 4000000 in
theorem rl_lit (w : World) (A : Option Addr) (c : Nat) (code : List Int) (a : Int) (t v : Int) (E : LookEnv w A c code) (h0 : 0 ≤ a) (h1 : a < 65536) (bv : 0 ≤ v ∧ v < 65536) (hb : 0 ≤ t ∧ t < 65536) (hc : cellOf code a = some t) (hd : cellOf code t = some 3) (hv : cellOf code (IntKind.u16.wrap (a + 2)) = some v) :
    Calls Tryd.prog 61 #[.slice A code.length c, .int .u16 a] w fun e w' => e = .returned (.tuple #[(⟨a, 3, v, 0, IntKind.u16.wrap (a + 4)⟩ : FI).val, .int .i64 0]) ∧ Below w.heap.size w w' := by
  have EH : Hid (LookEnv w A c code) := E
  obtain ⟨t0, t1⟩ := hb
  obtain ⟨v0, v1⟩ := bv
  have ho : hasOperand 3 = true := rfl
  clear E
  go_enter Tryd.func61, Tryd.ntmps61
  go_wp2_with (first
    | (go_at_call 59; refine (EH.out _ _ (by repeat (first | exact Below.refl _ _ | apply b_alloc | apply b_drewN | (refine below_set1 ?_ (by simp; done) _ _))) (by first | assumption | exact (wrap16_range _).1) (by first | assumption | exact (wrap16_range _).2)).mono ?_; rintro e W ⟨rfl, k, rfl⟩)
    | (go_at_call 64; refine (roper_any _ _).mono ?_; rintro e W ⟨rfl, rfl⟩))
  all_goals first
    | (refine tail_r ?hz ?hb ?k
       case hz => repeat (first | exact ZeroR.start _ | apply ZeroR.alloc | apply ZeroR.drewN | (refine ZeroR.set ?_ (by simp; done) _))
       case hb => repeat (first | exact Below.refl _ _ | apply b_alloc | apply b_drewN | (refine below_set1 ?_ (by simp; done) _ _))
       case k =>
         intro V hb hB
         obtain ⟨⟨g0, g1, g2, g3, g4⟩, _⟩ := cells5 hb
         clear hb
         refine bodyPost_ret (v := .tuple #[.agg #[.int .u16 (a), .int .i64 (3), .int .u16 (v), .int .u16 (0), .int .u16 (IntKind.u16.wrap (a + 4))], .int .i64 0]) (by simp [results, Tryd.results61, go_sem, g0, g1, g2, g3, g4]) rfl ⟨rfl, hB⟩)
    | (exfalso; omega)

set_option maxRecDepth 100000 in
set_option maxHeartbeats 4000000 in
theorem rl_gone4 (w : World) (A : Option Addr) (c : Nat) (code : List Int) (a : Int) (t : Int) (E : LookEnv w A c code) (h0 : 0 ≤ a) (h1 : a < 65536) (hb : 0 ≤ t ∧ t < 65536) (hc : cellOf code a = some t) (hd : cellOf code t = some 4) (hv : cellOf code (IntKind.u16.wrap (a + 2)) = none) :
    Calls Tryd.prog 61 #[.slice A code.length c, .int .u16 a] w fun e w' => e = .returned (.tuple #[FI.zero.val, .int .i64 162]) ∧ Below w.heap.size w w' := by
  have EH : Hid (LookEnv w A c code) := E
  obtain ⟨t0, t1⟩ := hb
  have ho : hasOperand 4 = true := rfl
  clear E
  go_enter Tryd.func61, Tryd.ntmps61
  go_wp2_with (first
    | (go_at_call 59; refine (EH.out _ _ (by repeat (first | exact Below.refl _ _ | apply b_alloc | apply b_drewN | (refine below_set1 ?_ (by simp; done) _ _))) (by first | assumption | exact (wrap16_range _).1) (by first | assumption | exact (wrap16_range _).2)).mono ?_; rintro e W ⟨rfl, k, rfl⟩)
    | (go_at_call 64; refine (roper_any _ _).mono ?_; rintro e W ⟨rfl, rfl⟩))
  all_goals first
    | (refine tail_r ?hz ?hb ?k
       case hz => repeat (first | exact ZeroR.start _ | apply ZeroR.alloc | apply ZeroR.drewN | (refine ZeroR.set ?_ (by simp; done) _))
       case hb => repeat (first | exact Below.refl _ _ | apply b_alloc | apply b_drewN | (refine below_set1 ?_ (by simp; done) _ _))
       case k =>
         intro V hb hB
         obtain ⟨⟨g0, g1, g2, g3, g4⟩, _⟩ := cells5 hb
         clear hb
         refine bodyPost_ret (v := .tuple #[.agg #[.int .u16 (0), .int .i64 (0), .int .u16 (0), .int .u16 (0), .int .u16 (0)], .int .i64 162]) (by simp [results, Tryd.results61, go_sem, g0, g1, g2, g3, g4]) rfl ⟨rfl, hB⟩)
    | (exfalso; omega)

set_option maxRecDepth 100000 in
set_option maxHeartbeats 4000000 in
theorem rl_way4 (w : World) (A : Option Addr) (c : Nat) (code : List Int) (a : Int) (t v u : Int) (E : LookEnv w A c code) (h0 : 0 ≤ a) (h1 : a < 65536) (bv : 0 ≤ v ∧ v < 65536) (hb : 0 ≤ t ∧ t < 65536) (hc : cellOf code a = some t) (hd : cellOf code t = some 4) (hv : cellOf code (IntKind.u16.wrap (a + 2)) = some v) (hu : cellOf code v = some u) :
    Calls Tryd.prog 61 #[.slice A code.length c, .int .u16 a] w fun e w' => e = .returned (.tuple #[(⟨a, 4, v, 0, IntKind.u16.wrap (a + 4)⟩ : FI).val, .int .i64 0]) ∧ Below w.heap.size w w' := by
  have EH : Hid (LookEnv w A c code) := E
  obtain ⟨t0, t1⟩ := hb
  obtain ⟨v0, v1⟩ := bv
  have ho : hasOperand 4 = true := rfl
  clear E
  go_enter Tryd.func61, Tryd.ntmps61
  go_wp2_with (first
    | (go_at_call 59; refine (EH.out _ _ (by repeat (first | exact Below.refl _ _ | apply b_alloc | apply b_drewN | (refine below_set1 ?_ (by simp; done) _ _))) (by first | assumption | exact (wrap16_range _).1) (by first | assumption | exact (wrap16_range _).2)).mono ?_; rintro e W ⟨rfl, k, rfl⟩)
    | (go_at_call 64; refine (roper_any _ _).mono ?_; rintro e W ⟨rfl, rfl⟩))
  all_goals first
    | (refine tail_r ?hz ?hb ?k
       case hz => repeat (first | exact ZeroR.start _ | apply ZeroR.alloc | apply ZeroR.drewN | (refine ZeroR.set ?_ (by simp; done) _))
       case hb => repeat (first | exact Below.refl _ _ | apply b_alloc | apply b_drewN | (refine below_set1 ?_ (by simp; done) _ _))
       case k =>
         intro V hb hB
         obtain ⟨⟨g0, g1, g2, g3, g4⟩, _⟩ := cells5 hb
         clear hb
         refine bodyPost_ret (v := .tuple #[.agg #[.int .u16 (a), .int .i64 (4), .int .u16 (v), .int .u16 (0), .int .u16 (IntKind.u16.wrap (a + 4))], .int .i64 0]) (by simp [results, Tryd.results61, go_sem, g0, g1, g2, g3, g4]) rfl ⟨rfl, hB⟩)
    | (exfalso; omega)

set_option maxRecDepth 100000 in
set_option maxHeartbeats 4000000 in
theorem rl_miss4 (w : World) (A : Option Addr) (c : Nat) (code : List Int) (a : Int) (t v : Int) (E : LookEnv w A c code) (h0 : 0 ≤ a) (h1 : a < 65536) (bv : 0 ≤ v ∧ v < 65536) (hb : 0 ≤ t ∧ t < 65536) (hc : cellOf code a = some t) (hd : cellOf code t = some 4) (hv : cellOf code (IntKind.u16.wrap (a + 2)) = some v) (hu : cellOf code v = none) :
    Calls Tryd.prog 61 #[.slice A code.length c, .int .u16 a] w fun e w' => e = .returned (.tuple #[FI.zero.val, .int .i64 160]) ∧ Below w.heap.size w w' := by
  have EH : Hid (LookEnv w A c code) := E
  obtain ⟨t0, t1⟩ := hb
  obtain ⟨v0, v1⟩ := bv
  have ho : hasOperand 4 = true := rfl
  clear E
  go_enter Tryd.func61, Tryd.ntmps61
  go_wp2_with (first
    | (go_at_call 59; refine (EH.out _ _ (by repeat (first | exact Below.refl _ _ | apply b_alloc | apply b_drewN | (refine below_set1 ?_ (by simp; done) _ _))) (by first | assumption | exact (wrap16_range _).1) (by first | assumption | exact (wrap16_range _).2)).mono ?_; rintro e W ⟨rfl, k, rfl⟩)
    | (go_at_call 64; refine (roper_any _ _).mono ?_; rintro e W ⟨rfl, rfl⟩))
  all_goals first
    | (refine tail_r ?hz ?hb ?k
       case hz => repeat (first | exact ZeroR.start _ | apply ZeroR.alloc | apply ZeroR.drewN | (refine ZeroR.set ?_ (by simp; done) _))
       case hb => repeat (first | exact Below.refl _ _ | apply b_alloc | apply b_drewN | (refine below_set1 ?_ (by simp; done) _ _))
       case k =>
         intro V hb hB
         obtain ⟨⟨g0, g1, g2, g3, g4⟩, _⟩ := cells5 hb
         clear hb
         refine bodyPost_ret (v := .tuple #[.agg #[.int .u16 (0), .int .i64 (0), .int .u16 (0), .int .u16 (0), .int .u16 (0)], .int .i64 160]) (by simp [results, Tryd.results61, go_sem, g0, g1, g2, g3, g4]) rfl ⟨rfl, hB⟩)
    | (exfalso; omega)

set_option maxRecDepth 100000 in
set_option maxHeartbeats 4000000 in
theorem rl_gone5 (w : World) (A : Option Addr) (c : Nat) (code : List Int) (a : Int) (t : Int) (E : LookEnv w A c code) (h0 : 0 ≤ a) (h1 : a < 65536) (hb : 0 ≤ t ∧ t < 65536) (hc : cellOf code a = some t) (hd : cellOf code t = some 5) (hv : cellOf code (IntKind.u16.wrap (a + 2)) = none) :
    Calls Tryd.prog 61 #[.slice A code.length c, .int .u16 a] w fun e w' => e = .returned (.tuple #[FI.zero.val, .int .i64 162]) ∧ Below w.heap.size w w' := by
  have EH : Hid (LookEnv w A c code) := E
  obtain ⟨t0, t1⟩ := hb
  have ho : hasOperand 5 = true := rfl
  clear E
  go_enter Tryd.func61, Tryd.ntmps61
  go_wp2_with (first
    | (go_at_call 59; refine (EH.out _ _ (by repeat (first | exact Below.refl _ _ | apply b_alloc | apply b_drewN | (refine below_set1 ?_ (by simp; done) _ _))) (by first | assumption | exact (wrap16_range _).1) (by first | assumption | exact (wrap16_range _).2)).mono ?_; rintro e W ⟨rfl, k, rfl⟩)
    | (go_at_call 64; refine (roper_any _ _).mono ?_; rintro e W ⟨rfl, rfl⟩))
  all_goals first
    | (refine tail_r ?hz ?hb ?k
       case hz => repeat (first | exact ZeroR.start _ | apply ZeroR.alloc | apply ZeroR.drewN | (refine ZeroR.set ?_ (by simp; done) _))
       case hb => repeat (first | exact Below.refl _ _ | apply b_alloc | apply b_drewN | (refine below_set1 ?_ (by simp; done) _ _))
       case k =>
         intro V hb hB
         obtain ⟨⟨g0, g1, g2, g3, g4⟩, _⟩ := cells5 hb
         clear hb
         refine bodyPost_ret (v := .tuple #[.agg #[.int .u16 (0), .int .i64 (0), .int .u16 (0), .int .u16 (0), .int .u16 (0)], .int .i64 162]) (by simp [results, Tryd.results61, go_sem, g0, g1, g2, g3, g4]) rfl ⟨rfl, hB⟩)
    | (exfalso; omega)

set_option maxRecDepth 100000 in
set_option maxHeartbeats 4000000 in
theorem rl_way5 (w : World) (A : Option Addr) (c : Nat) (code : List Int) (a : Int) (t v u : Int) (E : LookEnv w A c code) (h0 : 0 ≤ a) (h1 : a < 65536) (bv : 0 ≤ v ∧ v < 65536) (hb : 0 ≤ t ∧ t < 65536) (hc : cellOf code a = some t) (hd : cellOf code t = some 5) (hv : cellOf code (IntKind.u16.wrap (a + 2)) = some v) (hu : cellOf code v = some u) :
    Calls Tryd.prog 61 #[.slice A code.length c, .int .u16 a] w fun e w' => e = .returned (.tuple #[(⟨a, 5, v, 0, IntKind.u16.wrap (a + 4)⟩ : FI).val, .int .i64 0]) ∧ Below w.heap.size w w' := by
  have EH : Hid (LookEnv w A c code) := E
  obtain ⟨t0, t1⟩ := hb
  obtain ⟨v0, v1⟩ := bv
  have ho : hasOperand 5 = true := rfl
  clear E
  go_enter Tryd.func61, Tryd.ntmps61
  go_wp2_with (first
    | (go_at_call 59; refine (EH.out _ _ (by repeat (first | exact Below.refl _ _ | apply b_alloc | apply b_drewN | (refine below_set1 ?_ (by simp; done) _ _))) (by first | assumption | exact (wrap16_range _).1) (by first | assumption | exact (wrap16_range _).2)).mono ?_; rintro e W ⟨rfl, k, rfl⟩)
    | (go_at_call 64; refine (roper_any _ _).mono ?_; rintro e W ⟨rfl, rfl⟩))
  all_goals first
    | (refine tail_r ?hz ?hb ?k
       case hz => repeat (first | exact ZeroR.start _ | apply ZeroR.alloc | apply ZeroR.drewN | (refine ZeroR.set ?_ (by simp; done) _))
       case hb => repeat (first | exact Below.refl _ _ | apply b_alloc | apply b_drewN | (refine below_set1 ?_ (by simp; done) _ _))
       case k =>
         intro V hb hB
         obtain ⟨⟨g0, g1, g2, g3, g4⟩, _⟩ := cells5 hb
         clear hb
         refine bodyPost_ret (v := .tuple #[.agg #[.int .u16 (a), .int .i64 (5), .int .u16 (v), .int .u16 (0), .int .u16 (IntKind.u16.wrap (a + 4))], .int .i64 0]) (by simp [results, Tryd.results61, go_sem, g0, g1, g2, g3, g4]) rfl ⟨rfl, hB⟩)
    | (exfalso; omega)

set_option maxRecDepth 100000 in
set_option maxHeartbeats 4000000 in
theorem rl_miss5 (w : World) (A : Option Addr) (c : Nat) (code : List Int) (a : Int) (t v : Int) (E : LookEnv w A c code) (h0 : 0 ≤ a) (h1 : a < 65536) (bv : 0 ≤ v ∧ v < 65536) (hb : 0 ≤ t ∧ t < 65536) (hc : cellOf code a = some t) (hd : cellOf code t = some 5) (hv : cellOf code (IntKind.u16.wrap (a + 2)) = some v) (hu : cellOf code v = none) :
    Calls Tryd.prog 61 #[.slice A code.length c, .int .u16 a] w fun e w' => e = .returned (.tuple #[FI.zero.val, .int .i64 160]) ∧ Below w.heap.size w w' := by
  have EH : Hid (LookEnv w A c code) := E
  obtain ⟨t0, t1⟩ := hb
  obtain ⟨v0, v1⟩ := bv
  have ho : hasOperand 5 = true := rfl
  clear E
  go_enter Tryd.func61, Tryd.ntmps61
  go_wp2_with (first
    | (go_at_call 59; refine (EH.out _ _ (by repeat (first | exact Below.refl _ _ | apply b_alloc | apply b_drewN | (refine below_set1 ?_ (by simp; done) _ _))) (by first | assumption | exact (wrap16_range _).1) (by first | assumption | exact (wrap16_range _).2)).mono ?_; rintro e W ⟨rfl, k, rfl⟩)
    | (go_at_call 64; refine (roper_any _ _).mono ?_; rintro e W ⟨rfl, rfl⟩))
  all_goals first
    | (refine tail_r ?hz ?hb ?k
       case hz => repeat (first | exact ZeroR.start _ | apply ZeroR.alloc | apply ZeroR.drewN | (refine ZeroR.set ?_ (by simp; done) _))
       case hb => repeat (first | exact Below.refl _ _ | apply b_alloc | apply b_drewN | (refine below_set1 ?_ (by simp; done) _ _))
       case k =>
         intro V hb hB
         obtain ⟨⟨g0, g1, g2, g3, g4⟩, _⟩ := cells5 hb
         clear hb
         refine bodyPost_ret (v := .tuple #[.agg #[.int .u16 (0), .int .i64 (0), .int .u16 (0), .int .u16 (0), .int .u16 (0)], .int .i64 160]) (by simp [results, Tryd.results61, go_sem, g0, g1, g2, g3, g4]) rfl ⟨rfl, hB⟩)
    | (exfalso; omega)

set_option maxRecDepth 100000 in
set_option maxHeartbeats 4000000 in
theorem rl_gone7 (w : World) (A : Option Addr) (c : Nat) (code : List Int) (a : Int) (t : Int) (E : LookEnv w A c code) (h0 : 0 ≤ a) (h1 : a < 65536) (hb : 0 ≤ t ∧ t < 65536) (hc : cellOf code a = some t) (hd : cellOf code t = some 7) (hv : cellOf code (IntKind.u16.wrap (a + 2)) = none) :
    Calls Tryd.prog 61 #[.slice A code.length c, .int .u16 a] w fun e w' => e = .returned (.tuple #[FI.zero.val, .int .i64 162]) ∧ Below w.heap.size w w' := by
  have EH : Hid (LookEnv w A c code) := E
  obtain ⟨t0, t1⟩ := hb
  have ho : hasOperand 7 = true := rfl
  clear E
  go_enter Tryd.func61, Tryd.ntmps61
  go_wp2_with (first
    | (go_at_call 59; refine (EH.out _ _ (by repeat (first | exact Below.refl _ _ | apply b_alloc | apply b_drewN | (refine below_set1 ?_ (by simp; done) _ _))) (by first | assumption | exact (wrap16_range _).1) (by first | assumption | exact (wrap16_range _).2)).mono ?_; rintro e W ⟨rfl, k, rfl⟩)
    | (go_at_call 64; refine (roper_any _ _).mono ?_; rintro e W ⟨rfl, rfl⟩))
  all_goals first
    | (refine tail_r ?hz ?hb ?k
       case hz => repeat (first | exact ZeroR.start _ | apply ZeroR.alloc | apply ZeroR.drewN | (refine ZeroR.set ?_ (by simp; done) _))
       case hb => repeat (first | exact Below.refl _ _ | apply b_alloc | apply b_drewN | (refine below_set1 ?_ (by simp; done) _ _))
       case k =>
         intro V hb hB
         obtain ⟨⟨g0, g1, g2, g3, g4⟩, _⟩ := cells5 hb
         clear hb
         refine bodyPost_ret (v := .tuple #[.agg #[.int .u16 (0), .int .i64 (0), .int .u16 (0), .int .u16 (0), .int .u16 (0)], .int .i64 162]) (by simp [results, Tryd.results61, go_sem, g0, g1, g2, g3, g4]) rfl ⟨rfl, hB⟩)
    | (exfalso; omega)

set_option maxRecDepth 100000 in
set_option maxHeartbeats 4000000 in
theorem rl_way7 (w : World) (A : Option Addr) (c : Nat) (code : List Int) (a : Int) (t v u : Int) (E : LookEnv w A c code) (h0 : 0 ≤ a) (h1 : a < 65536) (bv : 0 ≤ v ∧ v < 65536) (hb : 0 ≤ t ∧ t < 65536) (hc : cellOf code a = some t) (hd : cellOf code t = some 7) (hv : cellOf code (IntKind.u16.wrap (a + 2)) = some v) (hu : cellOf code v = some u) :
    Calls Tryd.prog 61 #[.slice A code.length c, .int .u16 a] w fun e w' => e = .returned (.tuple #[(⟨a, 7, v, 0, IntKind.u16.wrap (a + 4)⟩ : FI).val, .int .i64 0]) ∧ Below w.heap.size w w' := by
  have EH : Hid (LookEnv w A c code) := E
  obtain ⟨t0, t1⟩ := hb
  obtain ⟨v0, v1⟩ := bv
  have ho : hasOperand 7 = true := rfl
  clear E
  go_enter Tryd.func61, Tryd.ntmps61
  go_wp2_with (first
    | (go_at_call 59; refine (EH.out _ _ (by repeat (first | exact Below.refl _ _ | apply b_alloc | apply b_drewN | (refine below_set1 ?_ (by simp; done) _ _))) (by first | assumption | exact (wrap16_range _).1) (by first | assumption | exact (wrap16_range _).2)).mono ?_; rintro e W ⟨rfl, k, rfl⟩)
    | (go_at_call 64; refine (roper_any _ _).mono ?_; rintro e W ⟨rfl, rfl⟩))
  all_goals first
    | (refine tail_r ?hz ?hb ?k
       case hz => repeat (first | exact ZeroR.start _ | apply ZeroR.alloc | apply ZeroR.drewN | (refine ZeroR.set ?_ (by simp; done) _))
       case hb => repeat (first | exact Below.refl _ _ | apply b_alloc | apply b_drewN | (refine below_set1 ?_ (by simp; done) _ _))
       case k =>
         intro V hb hB
         obtain ⟨⟨g0, g1, g2, g3, g4⟩, _⟩ := cells5 hb
         clear hb
         refine bodyPost_ret (v := .tuple #[.agg #[.int .u16 (a), .int .i64 (7), .int .u16 (v), .int .u16 (0), .int .u16 (IntKind.u16.wrap (a + 4))], .int .i64 0]) (by simp [results, Tryd.results61, go_sem, g0, g1, g2, g3, g4]) rfl ⟨rfl, hB⟩)
    | (exfalso; omega)

set_option maxRecDepth 100000 in
set_option maxHeartbeats 4000000 in
theorem rl_miss7 (w : World) (A : Option Addr) (c : Nat) (code : List Int) (a : Int) (t v : Int) (E : LookEnv w A c code) (h0 : 0 ≤ a) (h1 : a < 65536) (bv : 0 ≤ v ∧ v < 65536) (hb : 0 ≤ t ∧ t < 65536) (hc : cellOf code a = some t) (hd : cellOf code t = some 7) (hv : cellOf code (IntKind.u16.wrap (a + 2)) = some v) (hu : cellOf code v = none) :
    Calls Tryd.prog 61 #[.slice A code.length c, .int .u16 a] w fun e w' => e = .returned (.tuple #[FI.zero.val, .int .i64 160]) ∧ Below w.heap.size w w' := by
  have EH : Hid (LookEnv w A c code) := E
  obtain ⟨t0, t1⟩ := hb
  obtain ⟨v0, v1⟩ := bv
  have ho : hasOperand 7 = true := rfl
  clear E
  go_enter Tryd.func61, Tryd.ntmps61
  go_wp2_with (first
    | (go_at_call 59; refine (EH.out _ _ (by repeat (first | exact Below.refl _ _ | apply b_alloc | apply b_drewN | (refine below_set1 ?_ (by simp; done) _ _))) (by first | assumption | exact (wrap16_range _).1) (by first | assumption | exact (wrap16_range _).2)).mono ?_; rintro e W ⟨rfl, k, rfl⟩)
    | (go_at_call 64; refine (roper_any _ _).mono ?_; rintro e W ⟨rfl, rfl⟩))
  all_goals first
    | (refine tail_r ?hz ?hb ?k
       case hz => repeat (first | exact ZeroR.start _ | apply ZeroR.alloc | apply ZeroR.drewN | (refine ZeroR.set ?_ (by simp; done) _))
       case hb => repeat (first | exact Below.refl _ _ | apply b_alloc | apply b_drewN | (refine below_set1 ?_ (by simp; done) _ _))
       case k =>
         intro V hb hB
         obtain ⟨⟨g0, g1, g2, g3, g4⟩, _⟩ := cells5 hb
         clear hb
         refine bodyPost_ret (v := .tuple #[.agg #[.int .u16 (0), .int .i64 (0), .int .u16 (0), .int .u16 (0), .int .u16 (0)], .int .i64 160]) (by simp [results, Tryd.results61, go_sem, g0, g1, g2, g3, g4]) rfl ⟨rfl, hB⟩)
    | (exfalso; omega)

theorem rlook_any (w : World) (A : Option Addr) (c : Nat) (code : List Int) (a : Int) (h : CodeIn w A code) (h0 : 0 ≤ a) (h1 : a < 65536) :
    Calls Tryd.prog 61 #[.slice A code.length c, .int .u16 a] w fun e w' => e = .returned (.tuple #[(lookAt code a).1.val, .int .i64 (lookAt code a).2]) ∧ Below w.heap.size w w' := by
  have E := LookEnv.mk' (c := c) h
  have hb := h.byte
  unfold lookAt
  cases hc : cellOf code a with
  | none => exact rl_fall w A c code a E h0 h1 hc
  | some t =>
    have bt := cellOf_range hb hc
    dsimp only
    cases hd : cellOf code t with
    | none => exact rl_none w A c code a t E h0 h1 bt hc hd
    | some o =>
      dsimp only
      by_cases hr : o < 1 ∨ 64 ≤ o
      · rw [if_pos hr]; exact rl_bad w A c code a t o E h0 h1 bt hc hd hr
      · rw [if_neg hr]
        by_cases n1 : o = 1
        · subst n1; rw [if_pos rfl]; exact rl_enter w A c code a t E h0 h1 bt hc hd
        · rw [if_neg n1]
          by_cases n2 : o = 2
          · subst n2
            rw [if_pos rfl]
            cases hv : cellOf code (IntKind.u16.wrap (t + 2)) with
            | none => exact rl_const0 w A c code a t E h0 h1 bt hc hd hv
            | some v => exact rl_const w A c code a t v E h0 h1 bt hc hd hv
          · rw [if_neg n2]
            cases ho : hasOperand o with
            | false =>
              rw [if_neg (by decide)]
              exact rl_plain w A c code a t o E h0 h1 bt hc hd (by omega) (by omega) n1 n2 ho
            | true =>
              rw [if_pos rfl]
              rcases hasOperand_yes ho with rfl | rfl | rfl | rfl
              · cases hv : cellOf code (IntKind.u16.wrap (a + 2)) with
                | none => exact rl_gone3 w A c code a t E h0 h1 bt hc hd hv
                | some v =>
                  have bv := cellOf_range hb hv
                  dsimp only
                  rw [if_neg (by simp)]
                  exact rl_lit w A c code a t v E h0 h1 bv bt hc hd hv
              · cases hv : cellOf code (IntKind.u16.wrap (a + 2)) with
                | none => exact rl_gone4 w A c code a t E h0 h1 bt hc hd hv
                | some v =>
                  have bv := cellOf_range hb hv
                  dsimp only
                  cases hu : cellOf code v with
                  | none => rw [if_pos (by simp)]; exact rl_miss4 w A c code a t v E h0 h1 bv bt hc hd hv hu
                  | some u => rw [if_neg (by simp)]; exact rl_way4 w A c code a t v u E h0 h1 bv bt hc hd hv hu
              · cases hv : cellOf code (IntKind.u16.wrap (a + 2)) with
                | none => exact rl_gone5 w A c code a t E h0 h1 bt hc hd hv
                | some v =>
                  have bv := cellOf_range hb hv
                  dsimp only
                  cases hu : cellOf code v with
                  | none => rw [if_pos (by simp)]; exact rl_miss5 w A c code a t v E h0 h1 bv bt hc hd hv hu
                  | some u => rw [if_neg (by simp)]; exact rl_way5 w A c code a t v u E h0 h1 bv bt hc hd hv hu
              · cases hv : cellOf code (IntKind.u16.wrap (a + 2)) with
                | none => exact rl_gone7 w A c code a t E h0 h1 bt hc hd hv
                | some v =>
                  have bv := cellOf_range hb hv
                  dsimp only
                  cases hu : cellOf code v with
                  | none => rw [if_pos (by simp)]; exact rl_miss7 w A c code a t v E h0 h1 bv bt hc hd hv hu
                  | some u => rw [if_neg (by simp)]; exact rl_way7 w A c code a t v u E h0 h1 bv bt hc hd hv hu
end Go.Proofs.YtabeljpnmmfpgaaDoor
