/-
  (*mem.Memory).Store, way by way.
-/
import Derived.Test.YtabeljpnmmfpgaaMemLoad
import Derived.Deep.RegionLaw
import Derived.Deep.AppendLies
namespace Go.Proofs.Ytabeljpnmmfpgaa
open Go.RowKit Go.MapKept
set_option linter.unusedVariables false

theorem store_nil (a x : Int) (w : World) : Calls Try.prog 14 #[.pointer none, .int .u16 a, .int .u8 x] w fun e w' => e = .returned (.tuple #[]) ∧ w' = w := by
  go_enter Try.func14, Try.ntmps14
  go_wp2
  first | go_end0 | refine bodyPost_ret (results_none rfl _ _ _) rfl ?_
  exact ⟨rfl, rfl⟩

theorem store_code (b : Nat) (a x : Int) (w : World) (h1 : a < 16384) :
    Calls Try.prog 14 #[.pointer (some ⟨b, 0, none⟩), .int .u16 a, .int .u8 x] w fun e w' => e = .returned (.tuple #[]) ∧ w' = w := by
  go_enter Try.func14, Try.ntmps14
  go_wp2
  first | go_end0 | refine bodyPost_ret (results_none rfl _ _ _) rfl ?_
  exact ⟨rfl, rfl⟩

theorem store_ram (b : Nat) (a x : Int) (w : World) (v : Value) (h0 : 32768 ≤ a) (h1 : a < 49152) (hc : w.cell? ⟨b, 1 + (a - 32768).toNat, none⟩ = some v) (hf : w.frozen? ⟨b, 1 + (a - 32768).toNat, none⟩ = false) :
    Calls Try.prog 14 #[.pointer (some ⟨b, 0, none⟩), .int .u16 a, .int .u8 x] w fun e w' => e = .returned (.tuple #[]) ∧ w' = w.setCell ⟨b, 1 + (a - 32768).toNat, none⟩ (.int .u8 x) := by
  go_enter Try.func14, Try.ntmps14
  go_wp2
  first | go_end0 | refine bodyPost_ret (results_none rfl _ _ _) rfl ?_
  exact ⟨rfl, rfl⟩

theorem store_scr (b : Nat) (a x : Int) (w : World) (v : Value) (h0 : 49152 ≤ a) (h1 : a < 52224) (hc : w.cell? ⟨b, 16385 + (a - 49152).toNat, none⟩ = some v) (hf : w.frozen? ⟨b, 16385 + (a - 49152).toNat, none⟩ = false) :
    Calls Try.prog 14 #[.pointer (some ⟨b, 0, none⟩), .int .u16 a, .int .u8 x] w fun e w' => e = .returned (.tuple #[]) ∧ w' = w.setCell ⟨b, 16385 + (a - 49152).toNat, none⟩ (.int .u8 x) := by
  go_enter Try.func14, Try.ntmps14
  go_wp2
  first | go_end0 | refine bodyPost_ret (results_none rfl _ _ _) rfl ?_
  exact ⟨rfl, rfl⟩

set_option maxRecDepth 100000 in
theorem store_bank (b bm y : Nat) (a x : Int) (w : World) (c : Int) (v : Value) (h0 : 16384 ≤ a) (h1 : a < 32768) (hm : w.cell? ⟨b, 0, none⟩ = some (.map (some bm))) (hch : w.cell? ⟨b, 19457, none⟩ = some (.int .u8 c))
    (hl : ∀ n, (Instr.lookup 82 (.map (some bm)) (.int .u8 c) true).run Try.prog (w.drewN n) = .ok (.tuple #[.pointer (some ⟨y, 0, none⟩), .bool true]) (w.drewN n))
    (hc : w.cell? ⟨y, (a - 16384).toNat, none⟩ = some v) (hf : w.frozen? ⟨y, (a - 16384).toNat, none⟩ = false) :
    Calls Try.prog 14 #[.pointer (some ⟨b, 0, none⟩), .int .u16 a, .int .u8 x] w fun e w' => e = .returned (.tuple #[]) ∧ ∃ n, w' = (w.drewN n).setCell ⟨y, (a - 16384).toNat, none⟩ (.int .u8 x) := by
  go_enter Try.func14, Try.ntmps14
  go_wp2_with (fail)
  go_quiet (fail)
  go_wp2_with (fail)
  first | go_end0 | refine bodyPost_ret (results_none rfl _ _ _) rfl ?_
  exact ⟨rfl, _, rfl⟩

set_option maxRecDepth 100000 in
theorem store_nobank (b bm : Nat) (a x : Int) (w : World) (c : Int) (h0 : 16384 ≤ a) (h1 : a < 32768) (hm : w.cell? ⟨b, 0, none⟩ = some (.map (some bm))) (hch : w.cell? ⟨b, 19457, none⟩ = some (.int .u8 c))
    (hl : ∀ n, (Instr.lookup 82 (.map (some bm)) (.int .u8 c) true).run Try.prog (w.drewN n) = .ok (.tuple #[.pointer none, .bool false]) (w.drewN n)) :
    Calls Try.prog 14 #[.pointer (some ⟨b, 0, none⟩), .int .u16 a, .int .u8 x] w fun e w' => e = .returned (.tuple #[]) ∧ Quiet w w' := by
  go_enter Try.func14, Try.ntmps14
  go_wp2_with (fail)
  go_quiet (fail)
  go_wp2_with (fail)
  first | go_end0 | refine bodyPost_ret (results_none rfl _ _ _) rfl ?_
  exact ⟨rfl, _, rfl⟩

theorem store_choose (b : Nat) (x : Int) (w : World) (v : Value) (hx : 0 ≤ x ∧ x < 256) (hc : w.cell? ⟨b, 19457, none⟩ = some v) (hf : w.frozen? ⟨b, 19457, none⟩ = false) :
    Calls Try.prog 14 #[.pointer (some ⟨b, 0, none⟩), .int .u16 65280, .int .u8 x] w fun e w' => e = .returned (.tuple #[]) ∧ w' = w.setCell ⟨b, 19457, none⟩ (.int .u8 (x % 16)) := by
  go_enter Try.func14, Try.ntmps14
  go_wp2
  first | go_end0 | refine bodyPost_ret (results_none rfl _ _ _) rfl ?_
  exact ⟨rfl, rfl⟩

theorem store_low (b : Nat) (x p : Int) (w : World) (hx : 0 ≤ x ∧ x < 256) (hp : 0 ≤ p ∧ p < 65536) (hc : w.cell? ⟨b, 19460, none⟩ = some (.int .u16 p)) (hf : w.frozen? ⟨b, 19460, none⟩ = false) :
    Calls Try.prog 14 #[.pointer (some ⟨b, 0, none⟩), .int .u16 65284, .int .u8 x] w fun e w' => e = .returned (.tuple #[]) ∧ w' = w.setCell ⟨b, 19460, none⟩ (.int .u16 (bits .or .u16 (bits .and .u16 p 65280) x)) := by
  go_enter Try.func14, Try.ntmps14
  go_wp2
  first | go_end0 | refine bodyPost_ret (results_none rfl _ _ _) rfl ?_
  exact ⟨rfl, rfl⟩

theorem store_high (b : Nat) (x p : Int) (w : World) (hx : 0 ≤ x ∧ x < 256) (hp : 0 ≤ p ∧ p < 65536) (hc : w.cell? ⟨b, 19460, none⟩ = some (.int .u16 p)) (hf : w.frozen? ⟨b, 19460, none⟩ = false) :
    Calls Try.prog 14 #[.pointer (some ⟨b, 0, none⟩), .int .u16 65285, .int .u8 x] w fun e w' => e = .returned (.tuple #[]) ∧ w' = w.setCell ⟨b, 19460, none⟩ (.int .u16 (bits .or .u16 (bits .and .u16 p 255) (x * 256))) := by
  go_enter Try.func14, Try.ntmps14
  go_wp2
  first | go_end0 | refine bodyPost_ret (results_none rfl _ _ _) rfl ?_
  exact ⟨rfl, rfl⟩

theorem store_else (b : Nat) (a x : Int) (w : World) (h0 : 52224 ≤ a) (hu : a < 65536) (h1 : a ≠ 65280) (h2 : a ≠ 65284) (h3 : a ≠ 65285) (h4 : a ≠ 65286) :
    Calls Try.prog 14 #[.pointer (some ⟨b, 0, none⟩), .int .u16 a, .int .u8 x] w fun e w' => e = .returned (.tuple #[]) ∧ w' = w := by
  go_enter Try.func14, Try.ntmps14
  go_wp2
  first | go_end0 | refine bodyPost_ret (results_none rfl _ _ _) rfl ?_
  exact ⟨rfl, rfl⟩

theorem infoTone : (Try.prog.info? 92).map (fun i => (i.zero, i.size, i.bytes)) = some (some (.agg #[.int .i64 0, .int .u16 0, .int .u8 0]), 3, 16) := by kernel_rfl


theorem toneCells_length (l : List (Int × Int × Int)) : (toneCells l).length = l.length * 3 := by
  induction l with
  | nil => rfl
  | cons x r ih => simp only [toneCells, List.flatMap_cons, List.length_append, List.length_cons, List.length_nil] at *; omega
theorem toneCells_snoc (l : List (Int × Int × Int)) (c p x : Int) : toneCells (l ++ [(c, p, x)]) = toneCells l ++ [.int .i64 c, .int .u16 p, .int .u8 x] := by simp [toneCells]

theorem news_cells (W : World) (t : TypeId) (c p x : Int) : ∀ j u, [Value.int .i64 c, Value.int .u16 p, Value.int .u8 x][j]? = some u → (W.alloc (.cells #[.int .i64 c, .int .u16 p, .int .u8 x] t)).cell? ((⟨W.heap.size, 0, none⟩ : Addr).add j) = some u := by
  intro j u h
  have hj : j < 3 := by have := (List.getElem?_eq_some_iff.1 h).1; simpa using this
  have hb := heap_alloc_at W (.cells #[.int .i64 c, .int .u16 p, .int .u8 x] t)
  have e : (⟨W.heap.size, 0, none⟩ : Addr).add j = ⟨W.heap.size, j, none⟩ := by unfold Addr.add; split <;> simp_all
  rw [e, cell_of hb]
  simpa using h

set_option maxRecDepth 100000 in
set_option maxHeartbeats 1000000 in
theorem store_play (b : Nat) (x c p : Int) (tv v : Value) (l : List (Int × Int × Int)) (w : World) (hl : l.length < 1000000000) (hc : w.cell? ⟨b, 19459, none⟩ = some v) (hf : ∀ k, w.frozen? ⟨b, k, none⟩ = false)
    (hcy : w.cell? ⟨b, 19462, none⟩ = some (.int .i64 c)) (hpi : w.cell? ⟨b, 19460, none⟩ = some (.int .u16 p)) (hto : w.cell? ⟨b, 19463, none⟩ = some tv)
    (hown : w.ownsRow 0 92 3 tv l.length (toneCells l)) (hbl : ∀ k, tv.ownBlock = some k → k ≠ b) :
    Calls Try.prog 14 #[.pointer (some ⟨b, 0, none⟩), .int .u16 65286, .int .u8 x] w fun e w' => e = .returned (.tuple #[]) ∧
      ∃ (v' : Value) (w1 w2 : World), w' = w2.setCell ⟨b, 19463, none⟩ v' ∧ w1 = w.setCell ⟨b, 19459, none⟩ (.int .u8 x) ∧ Upd w1 w2 (fun k => tv.ownBlock = some k) ∧
        w2.ownsRow 0 92 3 v' (l ++ [(c, p, x)]).length (toneCells (l ++ [(c, p, x)])) ∧ (∀ k, v'.ownBlock = some k → tv.ownBlock = some k ∨ w.heap.size ≤ k ∧ k < w2.heap.size) := by
  obtain ⟨i0, hi, hz0, hz1, hz2⟩ := info_parts infoTone
  have hblt : b < w.heap.size := World.block_lt_of_cell? w ⟨b, 19463, none⟩ hto
  obtain ⟨W, hW⟩ : ∃ W, W = w.setCell ⟨b, 19459, none⟩ (.int .u8 x) := ⟨_, rfl⟩
  have wc1 : W.cell? ⟨b, 19462, none⟩ = some (.int .i64 c) := by rw [hW, cell_set_ne (by decide)]; exact hcy
  have wc2 : W.cell? ⟨b, 19460, none⟩ = some (.int .u16 p) := by rw [hW, cell_set_ne (by decide)]; exact hpi
  have wc3 : W.cell? ⟨b, 19463, none⟩ = some tv := by rw [hW, cell_set_ne (by decide)]; exact hto
  have wf : W.frozen? ⟨b, 19463, none⟩ = false := by rw [hW, frozen_set]; exact hf _
  have wsz : W.heap.size = w.heap.size := by rw [hW]; simp [World.setCell]
  have wown : Hid (W.ownsRow 0 92 3 tv l.length (toneCells l)) := Lib.hid (ownsRow_heap hown (fun k hk => by rw [hW, heap_set_far (hbl k hk)]))
  have fin : Hid (∀ (g cap : Nat) (w2 : World), (W.alloc (.cells #[.int .i64 c, .int .u16 p, .int .u8 x] 92)).drew.grownBy w2 tv.ownBlock → w2.ownsRow 0 92 3 (.slice (some ⟨g, 0, none⟩) (l.length + 1) cap) (l.length + 1) (toneCells l ++ [.int .i64 c, .int .u16 p, .int .u8 x]) → (tv.ownBlock = some g ∨ g = W.heap.size + 1) → g < w2.heap.size →
      ∃ (v' : Value) (w1 w2' : World), w2.setCell ⟨b, 19463, none⟩ (.slice (some ⟨g, 0, none⟩) (l.length + 1) cap) = w2'.setCell ⟨b, 19463, none⟩ v' ∧ w1 = w.setCell ⟨b, 19459, none⟩ (.int .u8 x) ∧ Upd w1 w2' (fun k => tv.ownBlock = some k) ∧
        w2'.ownsRow 0 92 3 v' (l ++ [(c, p, x)]).length (toneCells (l ++ [(c, p, x)])) ∧ (∀ k, v'.ownBlock = some k → tv.ownBlock = some k ∨ w.heap.size ≤ k ∧ k < w2'.heap.size)) := by
    refine Lib.hid (fun g cap w2 hg ho hat hlt => ⟨_, W, w2, rfl, hW, ?_, ?_, ?_⟩)
    · exact ((Upd.refl W _).alloc _).drew.trans (Upd.of_grown hg) (fun i _ e => e.symm)
    · rw [toneCells_snoc]; simpa using ho
    · intro k hk
      simp only [Value.ownBlock, Option.some.injEq] at hk
      subst hk
      rcases hat with h | h
      · exact .inl h
      · exact .inr ⟨by omega, hlt⟩
  have kept : Hid (∀ w2 : World, (W.alloc (.cells #[.int .i64 c, .int .u16 p, .int .u8 x] 92)).drew.grownBy w2 tv.ownBlock → w2.cell? ⟨b, 19463, none⟩ = some tv ∧ w2.frozen? ⟨b, 19463, none⟩ = false) := by
    refine Lib.hid (fun w2 hg => ?_)
    have hb := hg.block b (by simp; omega) (fun e => hbl b e.symm rfl)
    have hb' : (W.alloc (.cells #[.int .i64 c, .int .u16 p, .int .u8 x] 92)).drew.heap[b]? = W.heap[b]? := Below.heap_alloc W _ _ (by show b < W.heap.size; omega)
    rw [hb'] at hb
    exact ⟨by rw [World.cell?_of_block (w := W) hb]; exact wc3, by rw [World.frozen?_of_block (w := W) hb]; exact wf⟩
  have wc4 : (W.alloc (.cells #[.int .i64 c, .int .u16 p, .int .u8 x] 92)).cell? ⟨b, 19463, none⟩ = some tv := by
    rw [← wc3]
    exact World.cell?_of_block (w := W) (Below.heap_alloc _ _ _ (by show b < W.heap.size; omega))
  have wown2 : Hid ((W.alloc (.cells #[.int .i64 c, .int .u16 p, .int .u8 x] 92)).drew.ownsRow 0 92 3 tv l.length (toneCells l)) := Lib.hid (wown.out.drew.alloc _)
  have nw : Hid (∀ j u, [Value.int .i64 c, Value.int .u16 p, Value.int .u8 x][j]? = some u → (W.alloc (.cells #[.int .i64 c, .int .u16 p, .int .u8 x] 92)).drew.cell? ((⟨W.heap.size, 0, none⟩ : Addr).add j) = some u) := Lib.hid (news_cells W _ c p x)
  have tk : Hid (w.setCell ⟨b, 19459, none⟩ (.int .u8 x) = W) := Lib.hid hW.symm
  have hff : w.frozen? ⟨b, 19459, none⟩ = false := hf _
  clear hW hf hown hto hcy hpi wsz
  go_enter Try.func14, Try.ntmps14
  go_wp2_with (fail)
  rw [tk.out]
  clear tk hc hff
  go_region_law (refine step_append_lies _ rfl (.tmp 101) (.tmp 112) 55 rfl 0 92 i0 _ 3 16 Try.underlying55 hi hz0 hz1 hz2 rfl (by decide) tv l.length (toneCells l) (by simp [Act.eval]) wown2.out ⟨W.heap.size, 0, none⟩ 1 1 [.int .i64 c, .int .u16 p, .int .u8 x] (by simp [Act.eval]) rfl nw.out (by simp [Value.oneCell']) (by decide) (by simp only [maxLen]; omega) (by omega) (Nat.zero_le _) _ rfl ?_; intro g cap w2 ho hg hat hlt; have f1 := Lib.hid (fin.out g cap w2 hg ho (by simpa using hat) hlt); obtain ⟨k1, k2⟩ := kept.out w2 hg; clear hg ho hat)
  all_goals
    go_wp2_with (fail)
    first | go_end0 | refine bodyPost_ret (results_none rfl _ _ _) rfl ?_
    exact ⟨rfl, f1.out⟩
end Go.Proofs.Ytabeljpnmmfpgaa
