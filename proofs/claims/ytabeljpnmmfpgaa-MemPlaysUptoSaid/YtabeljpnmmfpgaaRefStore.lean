/-
  (*ref.Memory).Store: what it makes of a memory.
  (*ref.Memory).Store, 2: the tone; the whole.
  (*ref.Memory).Cell, SetCell, Begin, Plot, Play, Choose.
-/
import Derived.Test.YtabeljpnmmfpgaaRefLoad
import Derived.Deep.AppendLies
import Derived.BigRegion
namespace Go.Proofs.Ytabeljpnmmfpgaa
open Go.RowKit Go.MapKept
set_option linter.unusedVariables false
set_option linter.unusedSimpArgs false

theorem wrap64_u16 (a : Int) (h0 : 0 ≤ a) (hu : a < 65536) : IntKind.i64.wrap a = a := by simp [IntKind.wrap, IntKind.bits, IntKind.signed]; omega
theorem wrap16_id (a : Int) (h0 : 0 ≤ a) (hu : a < 65536) : IntKind.u16.wrap a = a := by simp [IntKind.wrap, IntKind.bits, IntKind.signed]; omega

theorem run_neq_nil (w : World) (t e : TypeId) (a : Option Addr) (n c : Nat) (h : Try.prog.underlying t = some (.slice e)) :
    (binOp .neq t (.slice a n c) (.slice none 0 0)).run Try.prog w = .ok (.bool (!a.isNone)) w := by
  simp only [binOp]
  simp [Op.equal, Op.maxDepth, Lib.run_equalIn_slice_nil w 9999 t e a n c 0 0 h]

section
variable {w : World} {b : Nat} {M : Mm} {S : Nat → Prop} {l : List Int} {bx : Nat → Nat} {bv : Value} {br bs : Nat} {tv : Value}

theorem refStore_code (a x : Int) (h1 : a < 16384) (h0 : 0 ≤ a) :
    Calls Try.prog 47 #[.pointer (some ⟨b, 0, none⟩), .int .u16 a, .int .u8 x] w fun e w' => e = .returned (.tuple #[]) ∧ w' = w := by
  have wa := wrap64_u16 a h0 (by omega)
  go_enter Try.func47, Try.ntmps47
  go_wp2
  first | go_end0 | refine bodyPost_ret (results_none rfl _ _ _) rfl ?_
  exact ⟨rfl, rfl⟩

set_option maxRecDepth 100000 in
set_option maxHeartbeats 4000000 in
theorem refStore_bank (h : RefAt w b M S l bx bv br bs tv) (a x : Int) (h0 : 16384 ≤ a) (h1 : a < 32768) :
    Calls Try.prog 47 #[.pointer (some ⟨b, 0, none⟩), .int .u16 a, .int .u8 x] w fun e w' => e = .returned (.tuple #[]) ∧
      ∃ w1, Below w.heap.size w w1 ∧ ((M.bank M.chosen = none ∧ w' = w1) ∨ ∃ i, i < l.length ∧ l.getD i 0 = M.chosen ∧ w' = w1.setCell ⟨bx i, (a - 16384).toNat, none⟩ (.int .u8 x)) := by
  have wa := wrap64_u16 a (by omega) (by omega)
  have hbk := Lib.hid (refBank_any h)
  have cell : Hid (∀ w1 i, Below w.heap.size w w1 → i < l.length → ∃ v, w1.cell? ⟨bx i, (a - 16384).toNat, none⟩ = some (.int .u8 v) ∧ w1.frozen? ⟨bx i, (a - 16384).toNat, none⟩ = false) := fun w1 i hw hi => by
    obtain ⟨g, g1, g2⟩ := h.bank i hi
    have g3 : Buf w1 (bx i) 16384 g := g2.keep (hw.block _ (h.lt _ (h.sx i hi)))
    exact ⟨_, g3.cell (by omega), g3.free _⟩
  clear h
  go_enter Try.func47, Try.ntmps47
  go_wp2_with (fail)
  refine hbk.out.mono ?_
  rintro e w1 ⟨hb1, ⟨hn, rfl⟩ | ⟨i, hi, hl, rfl⟩⟩
  · have f : Hid (∃ w2, Below w.heap.size w w2 ∧ ((M.bank M.chosen = none ∧ w1 = w2) ∨ ∃ i, i < l.length ∧ l.getD i 0 = M.chosen ∧ w1 = w2.setCell ⟨bx i, (a - 16384).toNat, none⟩ (.int .u8 x))) := ⟨w1, hb1, .inl ⟨hn, rfl⟩⟩
    have he := run_neq_nil w1 35 5 none 0 0 Try.underlying35
    clear hbk cell hb1
    go_wp2_with (fail)
    first | go_end0 | refine bodyPost_ret (results_none rfl _ _ _) rfl ?_
    exact ⟨rfl, f.out⟩
  · obtain ⟨v, hv, hf⟩ := cell.out w1 i hb1 hi
    have f : Hid (∃ w2, Below w.heap.size w w2 ∧ ((M.bank M.chosen = none ∧ w1.setCell ⟨bx i, (a - 16384).toNat, none⟩ (.int .u8 x) = w2) ∨ ∃ j, j < l.length ∧ l.getD j 0 = M.chosen ∧ w1.setCell ⟨bx i, (a - 16384).toNat, none⟩ (.int .u8 x) = w2.setCell ⟨bx j, (a - 16384).toNat, none⟩ (.int .u8 x))) :=
      ⟨w1, hb1, .inr ⟨i, hi, hl, rfl⟩⟩
    have he := run_neq_nil w1 35 5 (some ⟨bx i, 0, none⟩) 16384 16384 Try.underlying35
    clear hbk cell hb1
    go_wp2_with (fail)
    first | go_end0 | refine bodyPost_ret (results_none rfl _ _ _) rfl ?_
    exact ⟨rfl, f.out⟩

theorem refStore_ram (a x : Int) (q : Nat) (v : Value) (h0 : 32768 ≤ a) (h1 : a < 49152) (hq : w.cell? ⟨b, 1, none⟩ = some (.slice (some ⟨q, 0, none⟩) 16384 16384)) (hc : w.cell? ⟨q, (a - 32768).toNat, none⟩ = some v) (hf : w.frozen? ⟨q, (a - 32768).toNat, none⟩ = false) :
    Calls Try.prog 47 #[.pointer (some ⟨b, 0, none⟩), .int .u16 a, .int .u8 x] w fun e w' => e = .returned (.tuple #[]) ∧ w' = w.setCell ⟨q, (a - 32768).toNat, none⟩ (.int .u8 x) := by
  have wa := wrap64_u16 a (by omega) (by omega)
  go_enter Try.func47, Try.ntmps47
  go_wp2
  first | go_end0 | refine bodyPost_ret (results_none rfl _ _ _) rfl ?_
  exact ⟨rfl, rfl⟩
theorem refStore_scr (a x : Int) (q : Nat) (v : Value) (h0 : 49152 ≤ a) (h1 : a < 52224) (hq : w.cell? ⟨b, 2, none⟩ = some (.slice (some ⟨q, 0, none⟩) 3072 3072)) (hc : w.cell? ⟨q, (a - 49152).toNat, none⟩ = some v) (hf : w.frozen? ⟨q, (a - 49152).toNat, none⟩ = false) :
    Calls Try.prog 47 #[.pointer (some ⟨b, 0, none⟩), .int .u16 a, .int .u8 x] w fun e w' => e = .returned (.tuple #[]) ∧ w' = w.setCell ⟨q, (a - 49152).toNat, none⟩ (.int .u8 x) := by
  have wa := wrap64_u16 a (by omega) (by omega)
  go_enter Try.func47, Try.ntmps47
  go_wp2
  first | go_end0 | refine bodyPost_ret (results_none rfl _ _ _) rfl ?_
  exact ⟨rfl, rfl⟩
theorem refStore_choose (x : Int) (v : Value) (hx0 : 0 ≤ x) (hx1 : x < 256) (hc : w.cell? ⟨b, 3, none⟩ = some v) (hf : w.frozen? ⟨b, 3, none⟩ = false) :
    Calls Try.prog 47 #[.pointer (some ⟨b, 0, none⟩), .int .u16 65280, .int .u8 x] w fun e w' => e = .returned (.tuple #[]) ∧ w' = w.setCell ⟨b, 3, none⟩ (.int .u8 (x % 16)) := by
  go_enter Try.func47, Try.ntmps47
  go_wp2
  first | go_end0 | refine bodyPost_ret (results_none rfl _ _ _) rfl ?_
  exact ⟨rfl, rfl⟩
theorem refStore_low (x p : Int) (hx0 : 0 ≤ x) (hx1 : x < 256) (hp : 0 ≤ p ∧ p < 65536) (hc : w.cell? ⟨b, 5, none⟩ = some (.int .u16 p)) (hf : w.frozen? ⟨b, 5, none⟩ = false) :
    Calls Try.prog 47 #[.pointer (some ⟨b, 0, none⟩), .int .u16 65284, .int .u8 x] w fun e w' => e = .returned (.tuple #[]) ∧ w' = w.setCell ⟨b, 5, none⟩ (.int .u16 (p / 256 * 256 + x)) := by
  have w1 := wrap16_id (p / 256 * 256) (by omega) (by omega)
  have w2 := wrap16_id (p / 256 * 256 + x) (by omega) (by omega)
  have w3 := wrap16_id x (by omega) (by omega)
  have tq : p.tdiv 256 = p / 256 := Int.tdiv_eq_ediv_of_nonneg hp.1
  have tr : p.tmod 256 = p % 256 := Int.tmod_eq_emod_of_nonneg hp.1
  have t2 := wrap16_id (p / 256) (by omega) (by omega)
  have t3 := wrap16_id (p % 256) (by omega) (by omega)
  go_enter Try.func47, Try.ntmps47
  go_wp2
  first | go_end0 | refine bodyPost_ret (results_none rfl _ _ _) rfl ?_
  exact ⟨rfl, rfl⟩
theorem refStore_high (x p : Int) (hx0 : 0 ≤ x) (hx1 : x < 256) (hp : 0 ≤ p ∧ p < 65536) (hc : w.cell? ⟨b, 5, none⟩ = some (.int .u16 p)) (hf : w.frozen? ⟨b, 5, none⟩ = false) :
    Calls Try.prog 47 #[.pointer (some ⟨b, 0, none⟩), .int .u16 65285, .int .u8 x] w fun e w' => e = .returned (.tuple #[]) ∧ w' = w.setCell ⟨b, 5, none⟩ (.int .u16 (p % 256 + 256 * x)) := by
  have w1 := wrap16_id (256 * x) (by omega) (by omega)
  have w2 := wrap16_id (p % 256 + 256 * x) (by omega) (by omega)
  have w3 := wrap16_id x (by omega) (by omega)
  have tq : p.tdiv 256 = p / 256 := Int.tdiv_eq_ediv_of_nonneg hp.1
  have tr : p.tmod 256 = p % 256 := Int.tmod_eq_emod_of_nonneg hp.1
  have t2 := wrap16_id (p / 256) (by omega) (by omega)
  have t3 := wrap16_id (p % 256) (by omega) (by omega)
  go_enter Try.func47, Try.ntmps47
  go_wp2
  first | go_end0 | refine bodyPost_ret (results_none rfl _ _ _) rfl ?_
  exact ⟨rfl, rfl⟩
theorem refStore_else (a x : Int) (h0 : 52224 ≤ a) (hu : a < 65536) (h1 : a ≠ 65280) (h2 : a ≠ 65284) (h3 : a ≠ 65285) (h4 : a ≠ 65286) :
    Calls Try.prog 47 #[.pointer (some ⟨b, 0, none⟩), .int .u16 a, .int .u8 x] w fun e w' => e = .returned (.tuple #[]) ∧ w' = w := by
  have wa := wrap64_u16 a (by omega) (by omega)
  have q1 : (a == 65280) = false := by simpa using h1
  have q2 : (a == 65284) = false := by simpa using h2
  have q3 : (a == 65285) = false := by simpa using h3
  have q4 : (a == 65286) = false := by simpa using h4
  go_enter Try.func47, Try.ntmps47
  go_wp2
  first | go_end0 | refine bodyPost_ret (results_none rfl _ _ _) rfl ?_
  exact ⟨rfl, rfl⟩
end
end Go.Proofs.Ytabeljpnmmfpgaa

namespace Go.Proofs.Ytabeljpnmmfpgaa
open Go.RowKit Go.MapKept
set_option linter.unusedVariables false
set_option linter.unusedSimpArgs false

set_option maxRecDepth 100000 in
set_option maxHeartbeats 4000000 in
theorem refStore_play (b : Nat) (x c p : Int) (tv v : Value) (l : List (Int × Int × Int)) (w : World) (hl : l.length < 1000000000) (hc : w.cell? ⟨b, 6, none⟩ = some v) (hf : ∀ k, w.frozen? ⟨b, k, none⟩ = false)
    (hcy : w.cell? ⟨b, 8, none⟩ = some (.int .i64 c)) (hpi : w.cell? ⟨b, 5, none⟩ = some (.int .u16 p)) (hto : w.cell? ⟨b, 9, none⟩ = some tv)
    (hown : w.ownsRow 0 92 3 tv l.length (toneCells l)) (hbl : ∀ k, tv.ownBlock = some k → k ≠ b) :
    Calls Try.prog 47 #[.pointer (some ⟨b, 0, none⟩), .int .u16 65286, .int .u8 x] w fun e w' => e = .returned (.tuple #[]) ∧
      ∃ (v' : Value) (w1 w2 : World), w' = w2.setCell ⟨b, 9, none⟩ v' ∧ w1 = w.setCell ⟨b, 6, none⟩ (.int .u8 x) ∧ Upd w1 w2 (fun k => tv.ownBlock = some k) ∧
        w2.ownsRow 0 92 3 v' (l ++ [(c, p, x)]).length (toneCells (l ++ [(c, p, x)])) ∧ (∀ k, v'.ownBlock = some k → tv.ownBlock = some k ∨ w.heap.size ≤ k ∧ k < w2.heap.size) := by
  obtain ⟨i0, hi, hz0, hz1, hz2⟩ := info_parts infoTone
  have hblt : b < w.heap.size := World.block_lt_of_cell? w ⟨b, 9, none⟩ hto
  obtain ⟨W, hW⟩ : ∃ W, W = w.setCell ⟨b, 6, none⟩ (.int .u8 x) := ⟨_, rfl⟩
  have wc1 : W.cell? ⟨b, 8, none⟩ = some (.int .i64 c) := by rw [hW, cell_set_ne (by decide)]; exact hcy
  have wc2 : W.cell? ⟨b, 5, none⟩ = some (.int .u16 p) := by rw [hW, cell_set_ne (by decide)]; exact hpi
  have wc3 : W.cell? ⟨b, 9, none⟩ = some tv := by rw [hW, cell_set_ne (by decide)]; exact hto
  have wf : W.frozen? ⟨b, 9, none⟩ = false := by rw [hW, frozen_set]; exact hf _
  have wsz : W.heap.size = w.heap.size := by rw [hW]; simp [World.setCell]
  have wown : Hid (W.ownsRow 0 92 3 tv l.length (toneCells l)) := Lib.hid (ownsRow_heap hown (fun k hk => by rw [hW, heap_set_far (hbl k hk)]))
  have fin : Hid (∀ (g cap : Nat) (w2 : World), (W.alloc (.cells #[.int .i64 c, .int .u16 p, .int .u8 x] 92)).drew.grownBy w2 tv.ownBlock → w2.ownsRow 0 92 3 (.slice (some ⟨g, 0, none⟩) (l.length + 1) cap) (l.length + 1) (toneCells l ++ [.int .i64 c, .int .u16 p, .int .u8 x]) → (tv.ownBlock = some g ∨ g = W.heap.size + 1) → g < w2.heap.size →
      ∃ (v' : Value) (w1 w2' : World), w2.setCell ⟨b, 9, none⟩ (.slice (some ⟨g, 0, none⟩) (l.length + 1) cap) = w2'.setCell ⟨b, 9, none⟩ v' ∧ w1 = w.setCell ⟨b, 6, none⟩ (.int .u8 x) ∧ Upd w1 w2' (fun k => tv.ownBlock = some k) ∧
        w2'.ownsRow 0 92 3 v' (l ++ [(c, p, x)]).length (toneCells (l ++ [(c, p, x)])) ∧ (∀ k, v'.ownBlock = some k → tv.ownBlock = some k ∨ w.heap.size ≤ k ∧ k < w2'.heap.size)) := by
    refine Lib.hid (fun g cap w2 hg ho hat hlt => ⟨_, W, w2, rfl, hW, ?_, ?_, ?_⟩)
    · exact ((Upd.refl W _).alloc _).drew.trans (Upd.of_grown hg) (fun i _ e => e.symm)
    · rw [toneCells_snoc]; simpa using ho
    · intro k hk
      simp only [Value.ownBlock, Option.some.injEq] at hk
      subst hk
      rcases hat with h | h
      · exact .inl h
      · exact .inr ⟨by omega, hlt⟩
  have kept : Hid (∀ w2 : World, (W.alloc (.cells #[.int .i64 c, .int .u16 p, .int .u8 x] 92)).drew.grownBy w2 tv.ownBlock → w2.cell? ⟨b, 9, none⟩ = some tv ∧ w2.frozen? ⟨b, 9, none⟩ = false) := by
    refine Lib.hid (fun w2 hg => ?_)
    have hb := hg.block b (by simp; omega) (fun e => hbl b e.symm rfl)
    have hb' : (W.alloc (.cells #[.int .i64 c, .int .u16 p, .int .u8 x] 92)).drew.heap[b]? = W.heap[b]? := Below.heap_alloc W _ _ (by show b < W.heap.size; omega)
    rw [hb'] at hb
    exact ⟨by rw [World.cell?_of_block (w := W) hb]; exact wc3, by rw [World.frozen?_of_block (w := W) hb]; exact wf⟩
  have wc4 : (W.alloc (.cells #[.int .i64 c, .int .u16 p, .int .u8 x] 92)).cell? ⟨b, 9, none⟩ = some tv := by
    rw [← wc3]
    exact World.cell?_of_block (w := W) (Below.heap_alloc _ _ _ (by show b < W.heap.size; omega))
  have wown2 : Hid ((W.alloc (.cells #[.int .i64 c, .int .u16 p, .int .u8 x] 92)).drew.ownsRow 0 92 3 tv l.length (toneCells l)) := Lib.hid (wown.out.drew.alloc _)
  have nw : Hid (∀ j u, [Value.int .i64 c, Value.int .u16 p, Value.int .u8 x][j]? = some u → (W.alloc (.cells #[.int .i64 c, .int .u16 p, .int .u8 x] 92)).drew.cell? ((⟨W.heap.size, 0, none⟩ : Addr).add j) = some u) := Lib.hid (news_cells W _ c p x)
  have tk : Hid (w.setCell ⟨b, 6, none⟩ (.int .u8 x) = W) := Lib.hid hW.symm
  have hff : w.frozen? ⟨b, 6, none⟩ = false := hf _
  clear hW hf hown hto hcy hpi wsz
  go_enter Try.func47, Try.ntmps47
  go_wp2_with (fail)
  rw [tk.out]
  clear tk hc hff
  go_region_law (refine step_append_lies _ rfl (.tmp 96) (.tmp 107) 55 rfl 0 92 i0 _ 3 16 Try.underlying55 hi hz0 hz1 hz2 rfl (by decide) tv l.length (toneCells l) (by simp [Act.eval]) wown2.out ⟨W.heap.size, 0, none⟩ 1 1 [.int .i64 c, .int .u16 p, .int .u8 x] (by simp [Act.eval]) rfl nw.out (by simp [Value.oneCell']) (by decide) (by simp only [maxLen]; omega) (by omega) (Nat.zero_le _) _ rfl ?_; intro g cap w2 ho hg hat hlt; have f1 := Lib.hid (fin.out g cap w2 hg ho (by simpa using hat) hlt); obtain ⟨k1, k2⟩ := kept.out w2 hg; clear hg ho hat)
  all_goals
    go_wp2_with (fail)
    first | go_end0 | refine bodyPost_ret (results_none rfl _ _ _) rfl ?_
    exact ⟨rfl, f1.out⟩

theorem RefDone.same {w w' : World} {b : Nat} {M : Mm} {S : Nat → Prop} (h : RefRep w b M S) (hb : Below w.heap.size w w') : RefDone w w' b M S :=
  ⟨Upd.of_below hb S, S, h.below hb, fun i hi => .inl hi⟩

/-- A byte of a list. -/
theorem RefAt.ramDone {w : World} {b : Nat} {M : Mm} {S : Nat → Prop} {l : List Int} {bx : Nat → Nat} {bv : Value} {br bs : Nat} {tv : Value} (H : RefAt w b M S l bx bv br bs tv) (i : Nat) (x : Int) (hx : 0 ≤ x ∧ x < 256) :
    RefAt (w.setCell ⟨br, i, none⟩ (.int .u8 x)) b { M with ram := fun j => if j = i then x else M.ram j } S l bx bv br bs tv := by
  refine H.setBuf H.ram i x _ { H.ok with ram := fun j => ?_ } rfl rfl (fun _ => rfl) (H.ram.set i x) (H.scr.far _ (fun e => H.nrs e.symm)) (fun j hj => ?_)
  · dsimp only; split
    · exact hx
    · exact H.ok.ram j
  · obtain ⟨g, g1, g2⟩ := H.bank j hj
    exact ⟨g, g1, g2.far _ (H.nrx j hj).1⟩
theorem RefAt.scrDone {w : World} {b : Nat} {M : Mm} {S : Nat → Prop} {l : List Int} {bx : Nat → Nat} {bv : Value} {br bs : Nat} {tv : Value} (H : RefAt w b M S l bx bv br bs tv) (i : Nat) (x : Int) (hx : 0 ≤ x ∧ x < 256) :
    RefAt (w.setCell ⟨bs, i, none⟩ (.int .u8 x)) b { M with scr := fun j => if j = i then x else M.scr j } S l bx bv br bs tv := by
  refine H.setBuf H.scr i x _ { H.ok with scr := fun j => ?_ } rfl rfl (fun _ => rfl) (H.ram.far _ H.nrs) (H.scr.set i x) (fun j hj => ?_)
  · dsimp only; split
    · exact hx
    · exact H.ok.scr j
  · obtain ⟨g, g1, g2⟩ := H.bank j hj
    exact ⟨g, g1, g2.far _ (H.nrx j hj).2⟩
theorem RefAt.bankDone {w : World} {b : Nat} {M : Mm} {S : Nat → Prop} {l : List Int} {bx : Nat → Nat} {bv : Value} {br bs : Nat} {tv : Value} (H : RefAt w b M S l bx bv br bs tv) {q : Nat} (hq : q < l.length) {c : Int} (hc : l.getD q 0 = c) {g : Nat → Int} (hg : M.bank c = some g) (i : Nat) (x : Int) (hx : 0 ≤ x ∧ x < 256) :
    RefAt (w.setCell ⟨bx q, i, none⟩ (.int .u8 x)) b { M with bank := fun m => if m = c then some (fun j => if j = i then x else g j) else M.bank m } S l bx bv br bs tv := by
  obtain ⟨g', g1, g2⟩ := H.bank q hq
  rw [hc, hg] at g1
  obtain rfl : g = g' := Option.some.inj g1
  refine H.setBuf g2 i x _ { H.ok with bank := fun n u hn j => ?_ } rfl rfl (fun n => ?_) (H.ram.far _ (fun e => (H.nrx q hq).1 e.symm)) (H.scr.far _ (fun e => (H.nrx q hq).2 e.symm)) (fun j hj => ?_)
  · dsimp only at hn
    split at hn
    · cases hn
      dsimp only
      split
      · exact hx
      · exact H.ok.bank c g hg j
    · exact H.ok.bank n u hn j
  · dsimp only
    by_cases e : n = c
    · rw [if_pos e, e, hg]; rfl
    · rw [if_neg e]
  · dsimp only
    by_cases e : j = q
    · subst e
      exact ⟨_, by rw [if_pos hc], g2.set i x⟩
    · obtain ⟨u, u1, u2⟩ := H.bank j hj
      refine ⟨u, ?_, u2.far _ (fun e' => e (H.inj j q hj hq e'))⟩
      rw [if_neg (fun e' => e ?_)]
      · exact u1
      · rw [← hc] at e'
        rcases Nat.lt_trichotomy j q with h | h | h
        · have := (List.pairwise_iff_getElem.1 H.asc) j q hj hq h
          simp only [List.getD_eq_getElem?_getD, List.getElem?_eq_getElem hj, List.getElem?_eq_getElem hq, Option.getD_some] at e'
          omega
        · exact h
        · have := (List.pairwise_iff_getElem.1 H.asc) q j hq hj h
          simp only [List.getD_eq_getElem?_getD, List.getElem?_eq_getElem hj, List.getElem?_eq_getElem hq, Option.getD_some] at e'
          omega

theorem RefAt.objDone {w : World} {b : Nat} {M M' : Mm} {S : Nat → Prop} {l : List Int} {bx : Nat → Nat} {bv : Value} {br bs : Nat} {tv : Value} (H : RefAt w b M S l bx bv br bs tv) (k : Nat) (v : Value) (hok : M'.Ok) (hc : (refV M bv br bs tv).setIfInBounds k v = refV M' bv br bs tv) (h1 : M'.bank = M.bank) (h2 : M'.ram = M.ram) (h3 : M'.scr = M.scr) (h4 : M'.tones = M.tones) :
    RefAt (w.setCell ⟨b, k, none⟩ v) b M' S l bx bv br bs tv :=
  H.setObj (Upd.refl w _) k v M' tv hok hc h1 h2 h3 (by rw [h4]; exact H.tones) (fun _ h => h) H.st H.lt

theorem RefDone.set {w w1 : World} {b q i : Nat} {v : Value} {M' : Mm} {S : Nat → Prop} (hb : Below w.heap.size w w1) (hq : S q) (hr : RefRep (w1.setCell ⟨q, i, none⟩ v) b M' S) : RefDone w (w1.setCell ⟨q, i, none⟩ v) b M' S :=
  ⟨(Upd.of_below hb S).setCell (fun _ => hq) v, S, hr, fun j hj => .inl hj⟩

set_option maxHeartbeats 1000000 in
theorem refStore_rep {b : Nat} {M : Mm} {S : Nat → Prop} {a x : Int} {w : World} (h : RefRep w b M S) (h0 : 0 ≤ a) (h1 : a < 65536) (hx0 : 0 ≤ x) (hx1 : x < 256) (hl : M.tones.length < 1000000000) :
    Calls Try.prog 47 #[.pointer (some ⟨b, 0, none⟩), .int .u16 a, .int .u8 x] w fun e w' => e = .returned (.tuple #[]) ∧ RefDone w w' b (M.store a x) S := by
  have h' := h
  obtain ⟨l, bx, bv, br, bs, tv, H⟩ := h
  obtain ⟨_, m1, m2, m3, m4, m5, m6, m7, m8, m9, mf⟩ := H.cells
  by_cases c1 : a < 16384
  · refine (refStore_code a x c1 h0).mono fun e w' ⟨he, hw⟩ => ⟨he, ?_⟩
    subst hw
    have hM : M.store a x = M := by unfold Mm.store; rw [if_pos c1]
    rw [hM]; exact .same h' (Below.refl _ _)
  by_cases c2 : a < 32768
  · refine (refStore_bank H a x (by omega) c2).mono fun e w' ⟨he, w1, hb, hw⟩ => ⟨he, ?_⟩
    rcases hw with ⟨hn, rfl⟩ | ⟨i, hi, hli, rfl⟩
    · have hM : M.store a x = M := by unfold Mm.store; rw [if_neg c1, if_pos c2, hn]
      rw [hM]; exact .same h' hb
    · obtain ⟨g, g1, g2⟩ := H.bank i hi
      rw [hli] at g1
      have hM : M.store a x = { M with bank := fun m => if m = M.chosen then some (fun j => if j = (a - 16384).toNat then x else g j) else M.bank m } := by
        unfold Mm.store; rw [if_neg c1, if_pos c2, g1]
      rw [hM]
      have hr1 : RefRep w1 b M S := h'.below hb
      have H1 : RefAt w1 b M S l bx bv br bs tv := by
        have st : ∀ k, S k → w1.heap[k]? = w.heap[k]? := fun k hk => hb.block k (H.lt k hk)
        exact { H with obj := (st b H.sb).trans H.obj, ram := H.ram.keep (st br H.sr), scr := H.scr.keep (st bs H.ss), row := ownsRow_heap H.row (fun k hk => st k (H.sv k hk)), bank := fun j hj => by obtain ⟨u, u1, u2⟩ := H.bank j hj; exact ⟨u, u1, u2.keep (st _ (H.sx j hj))⟩, tones := ownsRow_heap H.tones (fun k hk => st k (H.st k hk)), lt := hr1.lt }
      exact .set hb (H.sx i hi) ⟨_, _, _, _, _, _, H1.bankDone hi hli g1 _ x ⟨hx0, hx1⟩⟩
  by_cases c3 : a < 49152
  · refine (refStore_ram a x br _ (by omega) c3 m1 (H.ram.cell (by omega)) (H.ram.free _)).mono fun e w' ⟨he, hw⟩ => ⟨he, ?_⟩
    subst hw
    have hM : M.store a x = { M with ram := fun j => if j = (a - 32768).toNat then x else M.ram j } := by unfold Mm.store; rw [if_neg c1, if_neg c2, if_pos c3]
    rw [hM]
    exact .set (Below.refl _ _) H.sr ⟨_, _, _, _, _, _, H.ramDone _ x ⟨hx0, hx1⟩⟩
  by_cases c4 : a < 52224
  · refine (refStore_scr a x bs _ (by omega) c4 m2 (H.scr.cell (by omega)) (H.scr.free _)).mono fun e w' ⟨he, hw⟩ => ⟨he, ?_⟩
    subst hw
    have hM : M.store a x = { M with scr := fun j => if j = (a - 49152).toNat then x else M.scr j } := by unfold Mm.store; rw [if_neg c1, if_neg c2, if_neg c3, if_pos c4]
    rw [hM]
    exact .set (Below.refl _ _) H.ss ⟨_, _, _, _, _, _, H.scrDone _ x ⟨hx0, hx1⟩⟩
  have L : M.store a x = (if a = 65280 then { M with chosen := x % 16 } else if a = 65284 then { M with pitch := M.pitch / 256 * 256 + x } else if a = 65285 then { M with pitch := M.pitch % 256 + 256 * x }
      else if a = 65286 then { M with volume := x, tones := M.tones ++ [(M.cycle, M.pitch, x)] } else M) := by
    unfold Mm.store; rw [if_neg c1, if_neg c2, if_neg c3, if_neg c4]
  have hp := H.ok.pitch
  by_cases e1 : a = 65280
  · subst e1
    refine (refStore_choose x _ hx0 hx1 m3 (mf 3)).mono fun e w' ⟨he, hw⟩ => ⟨he, ?_⟩
    subst hw
    rw [L, if_pos rfl]
    exact .set (Below.refl _ _) H.sb ⟨_, _, _, _, _, _, H.objDone 3 _ { H.ok with chosen := by dsimp only; omega } rfl rfl rfl rfl rfl⟩
  by_cases e2 : a = 65284
  · subst e2
    refine (refStore_low x M.pitch hx0 hx1 hp m5 (mf 5)).mono fun e w' ⟨he, hw⟩ => ⟨he, ?_⟩
    subst hw
    rw [L, if_neg e1, if_pos rfl]
    exact .set (Below.refl _ _) H.sb ⟨_, _, _, _, _, _, H.objDone 5 _ { H.ok with pitch := by dsimp only; omega } rfl rfl rfl rfl rfl⟩
  by_cases e3 : a = 65285
  · subst e3
    refine (refStore_high x M.pitch hx0 hx1 hp m5 (mf 5)).mono fun e w' ⟨he, hw⟩ => ⟨he, ?_⟩
    subst hw
    rw [L, if_neg e1, if_neg e2, if_pos rfl]
    exact .set (Below.refl _ _) H.sb ⟨_, _, _, _, _, _, H.objDone 5 _ { H.ok with pitch := by dsimp only; omega } rfl rfl rfl rfl rfl⟩
  by_cases e4 : a = 65286
  · subst e4
    have hne : ∀ k, tv.ownBlock = some k → k ≠ b := by
      intro k hk
      rcases H.tones.2 with ⟨rfl, _⟩ | ⟨g', cap, cur, rfl, _, hh, _⟩
      · simp [Value.ownBlock] at hk
      · simp only [Value.ownBlock, Option.some.injEq] at hk
        subst hk
        exact heap_ne hh H.obj (cells_ne (by decide))
    refine (refStore_play b x M.cycle M.pitch tv _ M.tones w hl m6 mf m8 m5 m9 H.tones hne).mono fun e w' ⟨he, v', w1, w2, hw, hw1, hu, ho, hloc⟩ => ⟨he, ?_⟩
    rw [L, if_neg e1, if_neg e2, if_neg e3, if_pos rfl]
    have H1 : RefAt w1 b { M with volume := x } S l bx bv br bs tv := by
      rw [hw1]
      exact H.objDone 6 _ { H.ok with volume := ⟨hx0, hx1⟩ } rfl rfl rfl rfl rfl
    subst hw
    have hsz1 : w1.heap.size = w.heap.size := by rw [hw1]; simp [World.setCell]
    have hsz := hu.size
    have u01 : Upd w w1 S := by rw [hw1]; exact (Upd.refl w S).setCell (fun _ => H.sb) _
    have u02 : Upd w w2 S := u01.trans hu (fun i _ e => H.st i e)
    refine ⟨u02.setCell (fun _ => H.sb) _, fun i => S i ∨ (w.heap.size ≤ i ∧ i < w2.heap.size), ⟨l, bx, bv, br, bs, v', ?_⟩, fun i hi => hi.imp id And.left⟩
    refine H1.setObj hu 9 v' { M with volume := x, tones := M.tones ++ [(M.cycle, M.pitch, x)] } v' ⟨H.ok.bank, H.ok.ram, H.ok.scr, H.ok.chosen, H.ok.pad, ⟨hx0, hx1⟩, H.ok.pitch, H.ok.time⟩ rfl rfl rfl rfl ho (fun i hi => .inl hi) (fun k hk => ?_) (fun i hi => ?_)
    · rcases hloc k hk with h | h
      · exact .inl (H.st k h)
      · exact .inr h
    · rcases hi with h | h
      · have := H.lt i h; omega
      · exact h.2
  refine (refStore_else a x (by omega) h1 e1 e2 e3 e4).mono fun e w' ⟨he, hw⟩ => ⟨he, ?_⟩
  subst hw
  rw [L, if_neg e1, if_neg e2, if_neg e3, if_neg e4]; exact .same h' (Below.refl _ _)
end Go.Proofs.Ytabeljpnmmfpgaa

namespace Go.Proofs.Ytabeljpnmmfpgaa
open Go.RowKit Go.MapKept
set_option linter.unusedVariables false
set_option linter.unusedSimpArgs false

theorem RefDone.trans {w w1 w2 : World} {b : Nat} {M' : Mm} {S S1 : Nat → Prop} (h : Upd w w1 S) (h1 : ∀ i, S1 i → S i ∨ w.heap.size ≤ i) (k : RefDone w1 w2 b M' S1) : RefDone w w2 b M' S := by
  obtain ⟨u, S', r, hs⟩ := k
  refine ⟨h.trans u (fun i hi hi' => (h1 i hi').resolve_right (by omega)), S', r, fun i hi => ?_⟩
  rcases hs i hi with h' | h'
  · exact h1 i h'
  · have := h.size; exact .inr (by omega)

section
variable {b : Nat} {M : Mm} {S : Nat → Prop} {w : World}

theorem refCell_rep {a : Int} (h : RefRep w b M S) (h0 : 0 ≤ a) (h1 : a < 65536) :
    Calls Try.prog 46 #[.pointer (some ⟨b, 0, none⟩), .int .u16 a] w fun e w' => e = .returned (.int .u16 (M.cellAt a)) ∧ Below w.heap.size w w' := by
  obtain ⟨r0, r1⟩ := Mm.load_range h.isOk a
  obtain ⟨q0, q1⟩ := Mm.load_range h.isOk ((a + 1) % 65536)
  obtain ⟨x, hx⟩ : ∃ x, x = M.load a := ⟨_, rfl⟩
  obtain ⟨y, hy⟩ : ∃ y, y = M.load ((a + 1) % 65536) := ⟨_, rfl⟩
  have fin : Hid (M.cellAt a = x + 256 * y) := by rw [hx, hy]; rfl
  have HX := Lib.hid hx; have HY := Lib.hid hy
  rw [← hx] at r0 r1; rw [← hy] at q0 q1
  clear hx hy
  have w1 := wrap16_id x (by omega) (by omega)
  have w2 := wrap16_id y (by omega) (by omega)
  have w3 := wrap16_id (256 * y) (by omega) (by omega)
  have w4 := wrap16_id (x + 256 * y) (by omega) (by omega)
  go_enter Try.func46, Try.ntmps46
  go_wp2_with (fail)
  refine (refLoad_rep h h0 h1).mono ?_
  rintro e w1 ⟨rfl, q1'⟩
  rw [← HX.out]
  go_wp2_with (fail)
  rw [u16_wrap]
  refine (refLoad_rep (h.below q1') (by omega) (by omega)).mono ?_
  rintro e w2 ⟨rfl, q2'⟩
  rw [← HY.out]
  have q3 := q1'.trans (q2'.mono q1'.size)
  clear q1' q2'
  go_wp2_with (fail)
  go_ret
  exact ⟨by rw [fin.out]; rfl, q3⟩

theorem refSetCell_rep {a x : Int} (h : RefRep w b M S) (h0 : 0 ≤ a) (h1 : a < 65536) (hx0 : 0 ≤ x) (hx1 : x < 65536) (hl : M.tones.length + 2 < 1000000000) :
    Calls Try.prog 48 #[.pointer (some ⟨b, 0, none⟩), .int .u16 a, .int .u16 x] w fun e w' => e = .returned (.tuple #[]) ∧ RefDone w w' b (M.setCell a x) S := by
  have tq : x.tdiv 256 = x / 256 := Int.tdiv_eq_ediv_of_nonneg hx0
  have t2 := wrap16_id (x / 256) (by omega) (by omega)
  have t3 : x / 256 % 256 = x / 256 := by omega
  go_enter Try.func48, Try.ntmps48
  go_wp2_with (fail)
  refine (refStore_rep h h0 h1 (by omega) (by omega) (by omega)).mono ?_
  rintro e w1 ⟨rfl, u, S1, r, hs⟩
  go_wp2_with (fail)
  rw [u16_wrap]
  have ht := Mm.store_tones M a (x % 256)
  refine (refStore_rep r (by omega) (by omega) (by omega) (by omega) (by omega)).mono ?_
  rintro e w2 ⟨rfl, hd⟩
  have hd2 : RefDone w w2 b (M.setCell a x) S := hd.trans u hs
  go_wp2_with (fail)
  first | go_end0 | refine bodyPost_ret (results_none rfl _ _ _) rfl ?_
  exact ⟨rfl, hd2⟩

theorem refChoose_rep {x : Int} (h : RefRep w b M S) (hx0 : 0 ≤ x) (hx1 : x < 65536) (hl : M.tones.length < 1000000000) :
    Calls Try.prog 52 #[.pointer (some ⟨b, 0, none⟩), .int .u16 x] w fun e w' => e = .returned (.tuple #[]) ∧ RefDone w w' b (M.store 65280 (x % 256)) S := by
  go_enter Try.func52, Try.ntmps52
  go_wp2_with (fail)
  refine (refStore_rep h (by omega) (by omega) (by omega) (by omega) hl).mono ?_
  rintro e w1 ⟨rfl, hd⟩
  go_wp2_with (fail)
  first | go_end0 | refine bodyPost_ret (results_none rfl _ _ _) rfl ?_
  exact ⟨rfl, hd⟩

theorem refPlay_rep {x v : Int} (h : RefRep w b M S) (hx0 : 0 ≤ x) (hx1 : x < 65536) (hv0 : 0 ≤ v) (hv1 : v < 256) (hl : M.tones.length + 3 < 1000000000) :
    Calls Try.prog 51 #[.pointer (some ⟨b, 0, none⟩), .int .u16 x, .int .u8 v] w fun e w' => e = .returned (.tuple #[]) ∧ RefDone w w' b (M.play x v) S := by
  go_enter Try.func51, Try.ntmps51
  go_wp2_with (fail)
  refine (refSetCell_rep h (by omega) (by omega) hx0 hx1 (by omega)).mono ?_
  rintro e w1 ⟨rfl, u, S1, r, hs⟩
  have ht := Mm.setCell_tones M 65284 x
  go_wp2_with (fail)
  refine (refStore_rep r (by omega) (by omega) hv0 hv1 (by omega)).mono ?_
  rintro e w2 ⟨rfl, hd⟩
  have hd2 : RefDone w w2 b (M.play x v) S := hd.trans u hs
  go_wp2_with (fail)
  first | go_end0 | refine bodyPost_ret (results_none rfl _ _ _) rfl ?_
  exact ⟨rfl, hd2⟩

theorem refPlot_rep {x y c : Int} (h : RefRep w b M S) (hx0 : 0 ≤ x) (hy0 : 0 ≤ y) (hc0 : 0 ≤ c) (hc1 : c < 65536) (hl : M.tones.length < 1000000000) :
    Calls Try.prog 50 #[.pointer (some ⟨b, 0, none⟩), .int .u16 x, .int .u16 y, .int .u16 c] w fun e w' => e = .returned (.tuple #[]) ∧ RefDone w w' b (M.plot x y c) S := by
  by_cases hx : x < 64
  · by_cases hy : y < 48
    · have d1 : decide (x < 64) = true := by simpa using hx
      have d2 : decide (y < 48) = true := by simpa using hy
      have hM : Hid (M.plot x y c = M.store (49152 + 64 * y + x) (c % 256)) := by unfold Mm.plot; exact if_pos ⟨hx, hy⟩
      go_enter Try.func50, Try.ntmps50
      go_wp2_with (fail)
      refine (refStore_rep h (by omega) (by omega) (by omega) (by omega) hl).mono ?_
      rintro e w1 ⟨rfl, hd⟩
      go_wp2_with (fail)
      first | go_end0 | refine bodyPost_ret (results_none rfl _ _ _) rfl ?_
      exact ⟨rfl, hM.out ▸ hd⟩
    · have d1 : decide (x < 64) = true := by simpa using hx
      have d2 : decide (y < 48) = false := by simpa using hy
      have hM : Hid (M.plot x y c = M) := by unfold Mm.plot; exact if_neg (fun e => hy e.2)
      go_enter Try.func50, Try.ntmps50
      go_wp2_with fail
      first | go_end0 | refine bodyPost_ret (results_none rfl _ _ _) rfl ?_
      exact ⟨rfl, by rw [hM.out]; exact .same h (Below.refl _ _)⟩
  · have d1 : decide (x < 64) = false := by simpa using hx
    have hM : Hid (M.plot x y c = M) := by unfold Mm.plot; exact if_neg (fun e => hx e.1)
    go_enter Try.func50, Try.ntmps50
    go_wp2_with fail
    first | go_end0 | refine bodyPost_ret (results_none rfl _ _ _) rfl ?_
    exact ⟨rfl, by rw [hM.out]; exact .same h (Below.refl _ _)⟩

theorem refBegin_walk (b : Nat) (x t : Int) (w : World) (v1 v3 v4 : Value) (h1 : w.cell? ⟨b, 4, none⟩ = some v1) (h2 : w.cell? ⟨b, 7, none⟩ = some (.int .u16 t)) (h3 : w.cell? ⟨b, 8, none⟩ = some v3) (h4 : w.cell? ⟨b, 9, none⟩ = some v4) (hf : ∀ k, w.frozen? ⟨b, k, none⟩ = false) :
    Calls Try.prog 49 #[.pointer (some ⟨b, 0, none⟩), .int .u8 x] w fun e w' => e = .returned (.tuple #[]) ∧
      w' = (((w.setCell ⟨b, 4, none⟩ (.int .u8 x)).setCell ⟨b, 7, none⟩ (.int .u16 (IntKind.u16.wrap (t + 1)))).setCell ⟨b, 9, none⟩ (.slice none 0 0)).setCell ⟨b, 8, none⟩ (.int .i64 0) := by
  have f1 := hf 4
  have f2 := hf 7
  have f3 := hf 8
  have f4 := hf 9
  clear hf
  go_enter Try.func49, Try.ntmps49
  go_wp2
  first | go_end0 | refine bodyPost_ret (results_none rfl _ _ _) rfl ?_
  exact ⟨rfl, rfl⟩
theorem refBegin_rep {x : Int} (h : RefRep w b M S) (hx0 : 0 ≤ x) (hx1 : x < 256) :
    Calls Try.prog 49 #[.pointer (some ⟨b, 0, none⟩), .int .u8 x] w fun e w' => e = .returned (.tuple #[]) ∧ RefDone w w' b (M.begin x) S := by
  obtain ⟨l, bx, bv, br, bs, tv, H⟩ := h
  obtain ⟨_, m1, m2, m3, m4, m5, m6, m7, m8, m9, mf⟩ := H.cells
  refine (refBegin_walk b x M.time w _ _ _ m4 m7 m8 m9 mf).mono fun e w' ⟨he, hw⟩ => ⟨he, ?_⟩
  rw [u16_wrap] at hw
  have ht := H.ok.time
  have H1 := H.objDone (M' := { M with pad := x }) 4 (.int .u8 x) { H.ok with pad := ⟨hx0, hx1⟩ } rfl rfl rfl rfl rfl
  have H2 := H1.objDone (M' := { M with pad := x, time := (M.time + 1) % 65536 }) 7 (.int .u16 ((M.time + 1) % 65536)) { H1.ok with time := by dsimp only; omega } rfl rfl rfl rfl rfl
  have H3 := H2.setObj (Upd.refl _ _) 9 (.slice none 0 0) { M with pad := x, time := (M.time + 1) % 65536, tones := [] } (.slice none 0 0) { H2.ok with } rfl rfl rfl rfl (World.ownsRow_nil _ _ _ _) (fun _ h => h) (fun k hk => by simp [Value.ownBlock] at hk) H2.lt
  have H4 := H3.objDone (M' := M.begin x) 8 (.int .i64 0) { H3.ok with } rfl rfl rfl rfl rfl
  rw [← hw] at H4
  refine ⟨?_, S, ⟨_, _, _, _, _, _, H4⟩, fun i hi => .inl hi⟩
  rw [hw]
  exact ((((Upd.refl w S).setCell (fun _ => H.sb) _).setCell (fun _ => H.sb) _).setCell (fun _ => H.sb) _).setCell (fun _ => H.sb) _

/-- r.Cycle = n, stored by the caller. -/
theorem refCycle_rep {x : Int} (h : RefRep w b M S) : RefDone w (w.setCell ⟨b, 8, none⟩ (.int .i64 x)) b { M with cycle := x } S := by
  obtain ⟨l, bx, bv, br, bs, tv, H⟩ := h
  exact .set (Below.refl _ _) H.sb ⟨_, _, _, _, _, _, H.objDone 8 _ { H.ok with } rfl rfl rfl rfl rfl⟩
end
end Go.Proofs.Ytabeljpnmmfpgaa
