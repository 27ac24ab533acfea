/-
  m[n] = v, v, ok := m[n], delete(m, n), len(m) at the operation, over maps keyed by integers.
  The other plain methods of a memory: SetCell, Cell, Pad, Plot, Play, Choose, Begin, At.
-/
import Derived.Test.YtabeljpnmmfpgaaBase
import Derived.Maps.OwnOps
import Derived.Maps.OwnSet
import Derived.StillTailTactics
import Derived.Test.YtabeljpnmmfpgaaMemStore2
namespace Go.Proofs.Ytabeljpnmmfpgaa
open Go.RowKit Go.MapKept
set_option linter.unusedVariables false

section
variable {P : Program} {w : World} {ops : Array Oper} {rest : List Oper} {o : Oper} {a : Act} {Q : Exit → Act → World → Prop}

theorem wpList_imap_put (hg : o.guard = none) (m x v : Operand) (t : TypeId) (hop : o.op = Op.mapUpdate t m x v) (k e : TypeId) (q : IntKind) (ht : P.underlying t = some (.map k e)) (hk : P.underlying k = some (.int q))
    (r : Nat) (es : Array MapEntry) (clk : Nat) (f : Int → Option Value) (hm : a.eval m = .map (some r)) (hb : w.heap[r]? = some (.map es clk)) (H : IMap q es clk f) (n : Int) (val : Value) (hx : a.eval x = .int q n) (hv : a.eval v = val)
    (hK : ∀ (w' : World) (es' : Array MapEntry) (clk' : Nat), w'.heap[r]? = some (.map es' clk') → IMap q es' clk' (fun j => if j = n then some val else f j) → es'.size ≤ es.size + 1 → w.grownBy w' (some r) → wpList P ops Q rest (a.put o.dst undef) w') :
    wpList P ops Q (o :: rest) a w := by
  refine wpList_plain hg fun K' hK' => ?_
  obtain ⟨es', clk', hrun, H', h1, h2⟩ := H.put hb ht hk n val
  have hlt := heap_lt hb
  unfold Oper.wp
  simp [execOp, hop, hm, hx, hv, hrun, Result.andThen]
  exact hK' _ _ (hK _ es' clk' (by simp [hlt]) H' h1 ⟨rfl, rfl, rfl, by simp, fun i hi hne => by
    show (w.heap.setIfInBounds r _)[i]? = _
    rw [Array.getElem?_setIfInBounds, if_neg (by rintro rfl; exact hne rfl)]⟩)
end
end Go.Proofs.Ytabeljpnmmfpgaa

namespace Go.Proofs.Ytabeljpnmmfpgaa
open Go.RowKit Go.MapKept
set_option linter.unusedVariables false

theorem MemDone.size {w w' : World} {b : Nat} {M : Mm} {S : Nat → Prop} (h : MemDone w w' b M S) : w.heap.size ≤ w'.heap.size := h.upd.size
theorem MemDone.trans {w w1 w2 : World} {b : Nat} {M' : Mm} {S S1 : Nat → Prop} (h : Upd w w1 S) (h1 : ∀ i, S1 i → S i ∨ w.heap.size ≤ i) (k : MemDone w1 w2 b M' S1) : MemDone w w2 b M' S := by
  obtain ⟨u, S', r, hs⟩ := k
  refine ⟨h.trans u (fun i hi hi' => (h1 i hi').resolve_right (by omega)), S', r, fun i hi => ?_⟩
  rcases hs i hi with h' | h'
  · exact h1 i h'
  · have := h.size; exact .inr (by omega)
theorem MemRep.isOk {w : World} {b : Nat} {M : Mm} {S : Nat → Prop} (h : MemRep w b M S) : M.Ok := by
  obtain ⟨_, _, _, _, _, _, H⟩ := h; exact H.ok
theorem Mm.store_tones (M : Mm) (a x : Int) : (M.store a x).tones.length ≤ M.tones.length + 1 := by
  unfold Mm.store
  repeat' split
  all_goals simp

def Mm.setCell (M : Mm) (a x : Int) : Mm := (M.store a (x % 256)).store ((a + 1) % 65536) (x / 256)

theorem setCell_nil (a x : Int) (w : World) : Calls Try.prog 24 #[.pointer none, .int .u16 a, .int .u16 x] w fun e w' => e = .returned (.tuple #[]) ∧ w' = w := by
  go_enter Try.func24, Try.ntmps24
  go_wp2_with (go_at_call 14; refine (store_nil _ _ _).mono ?_; rintro e w' ⟨rfl, rfl⟩)
  go_end0
  exact ⟨rfl, rfl⟩

theorem setCell_rep {b : Nat} {M : Mm} {S : Nat → Prop} {a x : Int} {w : World} (h : MemRep w b M S) (h0 : 0 ≤ a) (h1 : a < 65536) (hx0 : 0 ≤ x) (hx1 : x < 65536) (hl : M.tones.length + 2 < 1000000000) :
    Calls Try.prog 24 #[.pointer (some ⟨b, 0, none⟩), .int .u16 a, .int .u16 x] w fun e w' => e = .returned (.tuple #[]) ∧ MemDone w w' b (M.setCell a x) S := by
  go_enter Try.func24, Try.ntmps24
  go_wp2_with (fail)
  refine (store_rep h h0 h1 (by omega) (by omega) (by omega)).mono ?_
  rintro e w1 ⟨rfl, u, S1, r, hs⟩
  go_wp2_with (fail)
  rw [u16_wrap]
  have ht := Mm.store_tones M a (x % 256)
  refine (store_rep r (by omega) (by omega) (by omega) (by omega) (by omega)).mono ?_
  rintro e w2 ⟨rfl, hd⟩
  have hd2 : MemDone w w2 b (M.setCell a x) S := hd.trans u hs
  go_wp2_with (fail)
  first | go_end0 | refine bodyPost_ret (results_none rfl _ _ _) rfl ?_
  exact ⟨rfl, hd2⟩

theorem cell_nil (a : Int) (w : World) (h0 : 0 ≤ a) (h1 : a < 65536) : Calls Try.prog 28 #[.pointer none, .int .u16 a] w fun e w' => e = .returned (.int .u16 0) ∧ w' = w := by
  go_enter Try.func28, Try.ntmps28
  go_wp2_with (go_at_call 15; refine (load_nil _ _).mono ?_; rintro e w' ⟨rfl, rfl⟩)
  go_ret
  exact ⟨rfl, rfl⟩

def Mm.cellAt (M : Mm) (a : Int) : Int := M.load a + 256 * M.load ((a + 1) % 65536)

theorem cell_rep {b : Nat} {M : Mm} {S : Nat → Prop} {a : Int} {w : World} (h : MemRep w b M S) (h0 : 0 ≤ a) (h1 : a < 65536) :
    Calls Try.prog 28 #[.pointer (some ⟨b, 0, none⟩), .int .u16 a] w fun e w' => e = .returned (.int .u16 (M.cellAt a)) ∧ Quiet w w' := by
  obtain ⟨r0, r1⟩ := Mm.load_range h.isOk a
  obtain ⟨q0, q1⟩ := Mm.load_range h.isOk ((a + 1) % 65536)
  have fin : Hid (Ending.returned (.int .u16 (bits .or .u16 (M.load a) (M.load ((a + 1) % 65536) * 256))) = .returned (.int .u16 (M.cellAt a))) := by
    rw [u16_or_hi r0 r1 (by omega) (by omega) (by omega), Int.mul_comm]; rfl
  go_enter Try.func28, Try.ntmps28
  go_wp2_with (fail)
  refine (load_rep h h0 h1).mono ?_
  rintro e w1 ⟨rfl, q1'⟩
  go_wp2_with (fail)
  rw [u16_wrap]
  refine (load_rep (h.quiet q1') (by omega) (by omega)).mono ?_
  rintro e w2 ⟨rfl, q2'⟩
  have q3 := Quiet.trans q1' q2'
  go_wp2_with (fail)
  go_ret
  exact ⟨fin.out, q3⟩

theorem pad_nil (w : World) : Calls Try.prog 16 #[.pointer none] w fun e w' => e = .returned (.int .u8 0) ∧ w' = w := by
  go_enter Try.func16, Try.ntmps16
  go_wp2_with (go_at_call 15; refine (load_nil _ _).mono ?_; rintro e w' ⟨rfl, rfl⟩)
  go_ret
  exact ⟨rfl, rfl⟩
theorem pad_rep {b : Nat} {M : Mm} {S : Nat → Prop} {w : World} (h : MemRep w b M S) :
    Calls Try.prog 16 #[.pointer (some ⟨b, 0, none⟩)] w fun e w' => e = .returned (.int .u8 M.pad) ∧ Quiet w w' := by
  have hp : Hid (M.load 65282 = M.pad) := rfl
  go_enter Try.func16, Try.ntmps16
  go_wp2_with (fail)
  refine (load_rep h (by omega) (by omega)).mono ?_
  rintro e w1 ⟨rfl, q1'⟩
  rw [hp.out]
  go_wp2_with (fail)
  go_ret
  exact ⟨rfl, q1'⟩

theorem choose_nil (x : Int) (w : World) : Calls Try.prog 11 #[.pointer none, .int .u16 x] w fun e w' => e = .returned (.tuple #[]) ∧ w' = w := by
  go_enter Try.func11, Try.ntmps11
  go_wp2_with (go_at_call 14; refine (store_nil _ _ _).mono ?_; rintro e w' ⟨rfl, rfl⟩)
  first | go_end0 | refine bodyPost_ret (results_none rfl _ _ _) rfl ?_
  exact ⟨rfl, rfl⟩
theorem choose_rep {b : Nat} {M : Mm} {S : Nat → Prop} {x : Int} {w : World} (h : MemRep w b M S) (hx0 : 0 ≤ x) (hx1 : x < 65536) (hl : M.tones.length < 1000000000) :
    Calls Try.prog 11 #[.pointer (some ⟨b, 0, none⟩), .int .u16 x] w fun e w' => e = .returned (.tuple #[]) ∧ MemDone w w' b (M.store 65280 (x % 256)) S := by
  go_enter Try.func11, Try.ntmps11
  go_wp2_with (fail)
  refine (store_rep h (by omega) (by omega) (by omega) (by omega) hl).mono ?_
  rintro e w1 ⟨rfl, hd⟩
  go_wp2_with (fail)
  first | go_end0 | refine bodyPost_ret (results_none rfl _ _ _) rfl ?_
  exact ⟨rfl, hd⟩

def Mm.play (M : Mm) (p v : Int) : Mm := (M.setCell 65284 p).store 65286 v
theorem Mm.setCell_tones (M : Mm) (a x : Int) : (M.setCell a x).tones.length ≤ M.tones.length + 2 := by
  have h1 := Mm.store_tones M a (x % 256)
  have h2 := Mm.store_tones (M.store a (x % 256)) ((a + 1) % 65536) (x / 256)
  unfold Mm.setCell; omega
theorem play_nil (x v : Int) (w : World) : Calls Try.prog 27 #[.pointer none, .int .u16 x, .int .u8 v] w fun e w' => e = .returned (.tuple #[]) ∧ w' = w := by
  go_enter Try.func27, Try.ntmps27
  go_wp2_with (first | (go_at_call 14; refine (store_nil _ _ _).mono ?_; rintro e w' ⟨rfl, rfl⟩) | (go_at_call 24; refine (setCell_nil _ _ _).mono ?_; rintro e w' ⟨rfl, rfl⟩))
  first | go_end0 | refine bodyPost_ret (results_none rfl _ _ _) rfl ?_
  exact ⟨rfl, rfl⟩
theorem play_rep {b : Nat} {M : Mm} {S : Nat → Prop} {x v : Int} {w : World} (h : MemRep w b M S) (hx0 : 0 ≤ x) (hx1 : x < 65536) (hv0 : 0 ≤ v) (hv1 : v < 256) (hl : M.tones.length + 3 < 1000000000) :
    Calls Try.prog 27 #[.pointer (some ⟨b, 0, none⟩), .int .u16 x, .int .u8 v] w fun e w' => e = .returned (.tuple #[]) ∧ MemDone w w' b (M.play x v) S := by
  go_enter Try.func27, Try.ntmps27
  go_wp2_with (fail)
  refine (setCell_rep h (by omega) (by omega) hx0 hx1 (by omega)).mono ?_
  rintro e w1 ⟨rfl, u, S1, r, hs⟩
  have ht := Mm.setCell_tones M 65284 x
  go_wp2_with (fail)
  refine (store_rep r (by omega) (by omega) hv0 hv1 (by omega)).mono ?_
  rintro e w2 ⟨rfl, hd⟩
  have hd2 : MemDone w w2 b (M.play x v) S := hd.trans u hs
  go_wp2_with (fail)
  first | go_end0 | refine bodyPost_ret (results_none rfl _ _ _) rfl ?_
  exact ⟨rfl, hd2⟩

def Mm.plot (M : Mm) (x y c : Int) : Mm := if x < 64 ∧ y < 48 then M.store (49152 + 64 * y + x) (c % 256) else M
theorem plot_nil (x y c : Int) (w : World) : Calls Try.prog 26 #[.pointer none, .int .u16 x, .int .u16 y, .int .u16 c] w fun e w' => e = .returned (.tuple #[]) ∧ w' = w := by
  by_cases hx : x < 64
  · by_cases hy : y < 48
    · have d1 : decide (x < 64) = true := by simpa using hx
      have d2 : decide (y < 48) = true := by simpa using hy
      go_enter Try.func26, Try.ntmps26
      go_wp2_with (go_at_call 14; refine (store_nil _ _ _).mono ?_; rintro e w' ⟨rfl, rfl⟩)
      first | go_end0 | refine bodyPost_ret (results_none rfl _ _ _) rfl ?_
      exact ⟨rfl, rfl⟩
    · have d1 : decide (x < 64) = true := by simpa using hx
      have d2 : decide (y < 48) = false := by simpa using hy
      go_enter Try.func26, Try.ntmps26
      go_wp2_with fail
      first | go_end0 | refine bodyPost_ret (results_none rfl _ _ _) rfl ?_
      exact ⟨rfl, rfl⟩
  · have d1 : decide (x < 64) = false := by simpa using hx
    go_enter Try.func26, Try.ntmps26
    go_wp2_with fail
    first | go_end0 | refine bodyPost_ret (results_none rfl _ _ _) rfl ?_
    exact ⟨rfl, rfl⟩
theorem plot_rep {b : Nat} {M : Mm} {S : Nat → Prop} {x y c : Int} {w : World} (h : MemRep w b M S) (hx0 : 0 ≤ x) (hy0 : 0 ≤ y) (hc0 : 0 ≤ c) (hc1 : c < 65536) (hl : M.tones.length < 1000000000) :
    Calls Try.prog 26 #[.pointer (some ⟨b, 0, none⟩), .int .u16 x, .int .u16 y, .int .u16 c] w fun e w' => e = .returned (.tuple #[]) ∧ MemDone w w' b (M.plot x y c) S := by
  by_cases hx : x < 64
  · by_cases hy : y < 48
    · have d1 : decide (x < 64) = true := by simpa using hx
      have d2 : decide (y < 48) = true := by simpa using hy
      have hM : Hid (M.plot x y c = M.store (49152 + 64 * y + x) (c % 256)) := by unfold Mm.plot; exact if_pos ⟨hx, hy⟩
      go_enter Try.func26, Try.ntmps26
      go_wp2_with (fail)
      refine (store_rep h (by omega) (by omega) (by omega) (by omega) hl).mono ?_
      rintro e w1 ⟨rfl, hd⟩
      go_wp2_with (fail)
      first | go_end0 | refine bodyPost_ret (results_none rfl _ _ _) rfl ?_
      exact ⟨rfl, hM.out ▸ hd⟩
    · have d1 : decide (x < 64) = true := by simpa using hx
      have d2 : decide (y < 48) = false := by simpa using hy
      have hM : Hid (M.plot x y c = M) := by unfold Mm.plot; exact if_neg (fun e => hy e.2)
      go_enter Try.func26, Try.ntmps26
      go_wp2_with fail
      first | go_end0 | refine bodyPost_ret (results_none rfl _ _ _) rfl ?_
      exact ⟨rfl, by rw [hM.out]; exact .same h (Quiet.refl _)⟩
  · have d1 : decide (x < 64) = false := by simpa using hx
    have hM : Hid (M.plot x y c = M) := by unfold Mm.plot; exact if_neg (fun e => hx e.1)
    go_enter Try.func26, Try.ntmps26
    go_wp2_with fail
    first | go_end0 | refine bodyPost_ret (results_none rfl _ _ _) rfl ?_
    exact ⟨rfl, by rw [hM.out]; exact .same h (Quiet.refl _)⟩

theorem at_nil (x : Int) (w : World) : Calls Try.prog 25 #[.pointer none, .int .i64 x] w fun e w' => e = .returned (.tuple #[]) ∧ w' = w := by
  go_enter Try.func25, Try.ntmps25
  go_wp2
  first | go_end0 | refine bodyPost_ret (results_none rfl _ _ _) rfl ?_
  exact ⟨rfl, rfl⟩
theorem seven {j : Nat} (h1 : 19457 ≤ j) (h2 : j < 19464) : j = 19457 ∨ j = 19458 ∨ j = 19459 ∨ j = 19460 ∨ j = 19461 ∨ j = 19462 ∨ j = 19463 := by omega
theorem Mm.cell_far {M M' : Mm} {bm : Nat} {tv : Value} {k : Nat} {v : Value} (hk : 19457 ≤ k) (h1 : M'.ram = M.ram) (h2 : M'.scr = M.scr) (h3 : ∀ j, 19457 ≤ j → j < 19464 → M'.cell bm tv j = if j = k then v else M.cell bm tv j) : ∀ j, j < 19464 → M'.cell bm tv j = if j = k then v else M.cell bm tv j := by
  intro j hj
  by_cases hj' : 19457 ≤ j
  · exact h3 j hj' hj
  · rw [if_neg (by omega)]
    unfold Mm.cell
    rw [h1, h2]
    by_cases j0 : j = 0
    · rw [if_pos j0, if_pos j0]
    · rw [if_neg j0, if_neg j0]
      by_cases j1 : j < 16385
      · rw [if_pos j1, if_pos j1]
      · rw [if_neg j1, if_neg j1, if_pos (by omega), if_pos (by omega)]
theorem at_walk (b : Nat) (x : Int) (w : World) (v : Value) (hc : w.cell? ⟨b, 19462, none⟩ = some v) (hf : w.frozen? ⟨b, 19462, none⟩ = false) :
    Calls Try.prog 25 #[.pointer (some ⟨b, 0, none⟩), .int .i64 x] w fun e w' => e = .returned (.tuple #[]) ∧ w' = w.setCell ⟨b, 19462, none⟩ (.int .i64 x) := by
  go_enter Try.func25, Try.ntmps25
  go_wp2
  first | go_end0 | refine bodyPost_ret (results_none rfl _ _ _) rfl ?_
  exact ⟨rfl, rfl⟩
theorem at_rep {b : Nat} {M : Mm} {S : Nat → Prop} {x : Int} {w : World} (h : MemRep w b M S) :
    Calls Try.prog 25 #[.pointer (some ⟨b, 0, none⟩), .int .i64 x] w fun e w' => e = .returned (.tuple #[]) ∧ MemDone w w' b { M with cycle := x } S := by
  obtain ⟨cs, bm, es, clk, bf, tv, H⟩ := h
  refine (at_walk b x w _ (H.at_ 19462 (by omega)) (H.free _)).mono fun e w' ⟨he, hw⟩ => ⟨he, ?_⟩
  subst hw
  exact ⟨(Upd.refl w S).setCell (fun _ => H.sb) _, S, ⟨_, _, _, _, _, _, H.set 19462 (by omega) _ { M with cycle := x } { H.ok with } (Mm.cell_far (by omega) rfl rfl (fun j k1 k2 => by
    rcases seven k1 k2 with rfl | rfl | rfl | rfl | rfl | rfl | rfl <;> rfl)) rfl rfl⟩, fun i hi => .inl hi⟩

def Mm.begin (M : Mm) (x : Int) : Mm := { M with pad := x, time := (M.time + 1) % 65536, cycle := 0, tones := [] }
theorem begin_nil (x : Int) (w : World) : Calls Try.prog 12 #[.pointer none, .int .u8 x] w fun e w' => e = .returned (.tuple #[]) ∧ w' = w := by
  go_enter Try.func12, Try.ntmps12
  go_wp2
  first | go_end0 | refine bodyPost_ret (results_none rfl _ _ _) rfl ?_
  exact ⟨rfl, rfl⟩
theorem begin_walk (b : Nat) (x t : Int) (w : World) (v1 v3 v4 : Value) (h1 : w.cell? ⟨b, 19458, none⟩ = some v1) (h2 : w.cell? ⟨b, 19461, none⟩ = some (.int .u16 t)) (h3 : w.cell? ⟨b, 19462, none⟩ = some v3) (h4 : w.cell? ⟨b, 19463, none⟩ = some v4) (hf : ∀ k, w.frozen? ⟨b, k, none⟩ = false) :
    Calls Try.prog 12 #[.pointer (some ⟨b, 0, none⟩), .int .u8 x] w fun e w' => e = .returned (.tuple #[]) ∧
      w' = (((w.setCell ⟨b, 19458, none⟩ (.int .u8 x)).setCell ⟨b, 19461, none⟩ (.int .u16 (IntKind.u16.wrap (t + 1)))).setCell ⟨b, 19462, none⟩ (.int .i64 0)).setCell ⟨b, 19463, none⟩ (.slice none 0 0) := by
  have f1 := hf 19458
  have f2 := hf 19461
  have f3 := hf 19462
  have f4 := hf 19463
  clear hf
  go_enter Try.func12, Try.ntmps12
  go_wp2
  first | go_end0 | refine bodyPost_ret (results_none rfl _ _ _) rfl ?_
  exact ⟨rfl, rfl⟩
theorem begin_rep {b : Nat} {M : Mm} {S : Nat → Prop} {x : Int} {w : World} (h : MemRep w b M S) (hx0 : 0 ≤ x) (hx1 : x < 256) :
    Calls Try.prog 12 #[.pointer (some ⟨b, 0, none⟩), .int .u8 x] w fun e w' => e = .returned (.tuple #[]) ∧ MemDone w w' b (M.begin x) S := by
  obtain ⟨cs, bm, es, clk, bf, tv, H⟩ := h
  refine (begin_walk b x M.time w _ _ _ (H.at_ 19458 (by omega)) (by rw [H.at_ 19461 (by omega)]; rfl) (H.at_ 19462 (by omega)) (H.at_ 19463 (by omega)) H.free).mono fun e w' ⟨he, hw⟩ => ⟨he, ?_⟩
  rw [u16_wrap] at hw
  have ht := H.ok.time
  have H1 := H.set 19458 (by omega) (.int .u8 x) { M with pad := x } { H.ok with pad := ⟨hx0, hx1⟩ } (Mm.cell_far (by omega) rfl rfl (fun j k1 k2 => by
    rcases seven k1 k2 with rfl | rfl | rfl | rfl | rfl | rfl | rfl <;> rfl)) rfl rfl
  have H2 := H1.set 19461 (by omega) (.int .u16 ((M.time + 1) % 65536)) { M with pad := x, time := (M.time + 1) % 65536 } { H1.ok with time := by dsimp only; omega } (Mm.cell_far (by omega) rfl rfl (fun j k1 k2 => by
    rcases seven k1 k2 with rfl | rfl | rfl | rfl | rfl | rfl | rfl <;> rfl)) rfl rfl
  have H3 := H2.set 19462 (by omega) (.int .i64 0) { M with pad := x, time := (M.time + 1) % 65536, cycle := 0 } { H2.ok with } (Mm.cell_far (by omega) rfl rfl (fun j k1 k2 => by
    rcases seven k1 k2 with rfl | rfl | rfl | rfl | rfl | rfl | rfl <;> rfl)) rfl rfl
  have H4 := H3.setTones (.slice none 0 0) [] (World.ownsRow_nil _ _ _ _) (fun k hk => by simp [Value.ownBlock] at hk)
  rw [← hw] at H4
  refine ⟨?_, S, ⟨_, _, _, _, _, _, H4⟩, fun i hi => .inl hi⟩
  rw [hw]
  exact ((((Upd.refl w S).setCell (fun _ => H.sb) _).setCell (fun _ => H.sb) _).setCell (fun _ => H.sb) _).setCell (fun _ => H.sb) _
end Go.Proofs.Ytabeljpnmmfpgaa
