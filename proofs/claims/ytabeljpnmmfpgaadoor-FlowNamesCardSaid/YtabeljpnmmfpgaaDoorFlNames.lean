/-
  FlowNames: walked.
-/
import Derived.Laws.StructEq
import Derived.Test.YtabeljpnmmfpgaaDoorFlNamA
namespace Go.Proofs.YtabeljpnmmfpgaaDoor
open Go.RowKit Go.MapKept Go.Maps Go.Sort
set_option linter.unusedVariables false
set_option linter.unusedSimpArgs false

def VAt (W : World) (b : Nat) (z a : Int) : Prop := W.heap[b]? = some (.cells #[.int .i64 z, .int .u16 a] 33 (0, 0))
theorem VAt.fresh (W : World) (z a : Int) : VAt (W.alloc (.cells #[.int .i64 z, .int .u16 a] 33)) W.heap.size z a := heap_alloc_at W _
theorem VAt.below {W W' : World} {b : Nat} {z a : Int} (h : VAt W b z a) (hb : Below W.heap.size W W') : VAt W' b z a := (hb.block b (heap_lt h)).trans h
theorem VAt.c0 {W : World} {b : Nat} {z a : Int} (h : VAt W b z a) : W.cell? ⟨b, 0, none⟩ = some (.int .i64 z) := by rw [cell_of h]; rfl
theorem VAt.c1 {W : World} {b : Nat} {z a : Int} (h : VAt W b z a) : W.cell? ⟨b, 1, none⟩ = some (.int .u16 a) := by rw [cell_of h]; rfl

set_option maxRecDepth 100000 in
set_option maxHeartbeats 8000000 in
theorem names_any (w : World) (ht : Tab w) : Calls Tryd.prog 6 #[] w fun e w' => e = .returned (.bool true) ∧ Below w.heap.size w w' := by
  have FIX := Lib.hid (fixed_any w ht)
  have A0 : Hid (∀ W k, Below w.heap.size w W → k = W.heap.size → Calls Tryd.prog 25 #[.slice (some ⟨k, 0, none⟩) 5 5] (W.alloc (.cells #[.int .u16 1, .int .u16 6, .int .u16 7, .int .u16 128, .int .u16 16] 23)) fun e w' => (∃ v ts, e = .returned (.tuple #[v, .agg #[.int .i64 0, .int .u16 0]]) ∧ WordsAt w' (W.heap.size + 1) v ts [⟨128, [⟨130, 3, 7, 0, 134⟩, ⟨134, 1, 0, 128, 136⟩, ⟨136, 8, 0, 0, 138⟩], [128]⟩]) ∧ Below W.heap.size W w') := fun W k hb hk => by subst hk; exact at_good W (ht.below hb) [1, 6, 7, 128, 16] 5 rfl (by decide) (by decide) _ (by kernel_rfl)
  have A1 : Hid (∀ W k, Below w.heap.size w W → k = W.heap.size → Calls Tryd.prog 25 #[.slice (some ⟨k, 0, none⟩) 3 3] (W.alloc (.cells #[.int .u16 1, .int .u16 8, .int .u16 131] 23)) fun e w' => e = .returned (.tuple #[.slice none 0 0, .agg #[.int .i64 160, .int .u16 130]]) ∧ Below W.heap.size W w') := fun W k hb hk => by subst hk; exact at_bad W (ht.below hb) [1, 8, 131] 3 rfl (by decide) (by decide) 160 130 (by kernel_rfl)
  have A2 : Hid (∀ W k, Below w.heap.size w W → k = W.heap.size → Calls Tryd.prog 25 #[.slice (some ⟨k, 0, none⟩) 3 3] (W.alloc (.cells #[.int .u16 1, .int .u16 8, .int .u16 132] 23)) fun e w' => e = .returned (.tuple #[.slice none 0 0, .agg #[.int .i64 161, .int .u16 132]]) ∧ Below W.heap.size W w') := fun W k hb hk => by subst hk; exact at_bad W (ht.below hb) [1, 8, 132] 3 rfl (by decide) (by decide) 161 132 (by kernel_rfl)
  have A3 : Hid (∀ W k, Below w.heap.size w W → k = W.heap.size → Calls Tryd.prog 25 #[.slice (some ⟨k, 0, none⟩) 2 2] (W.alloc (.cells #[.int .u16 1, .int .u16 42] 23)) fun e w' => e = .returned (.tuple #[.slice none 0 0, .agg #[.int .i64 162, .int .u16 132]]) ∧ Below W.heap.size W w') := fun W k hb hk => by subst hk; exact at_bad W (ht.below hb) [1, 42] 2 rfl (by decide) (by decide) 162 132 (by kernel_rfl)
  have A4 : Hid (∀ W k, Below w.heap.size w W → k = W.heap.size → Calls Tryd.prog 25 #[.slice (some ⟨k, 0, none⟩) 4 4] (W.alloc (.cells #[.int .u16 1, .int .u16 10, .int .u16 134, .int .u16 16] 23)) fun e w' => (∃ v ts, e = .returned (.tuple #[v, .agg #[.int .i64 0, .int .u16 0]]) ∧ WordsAt w' (W.heap.size + 1) v ts [⟨128, [⟨130, 5, 134, 0, 134⟩, ⟨134, 8, 0, 0, 136⟩], []⟩]) ∧ Below W.heap.size W w') := fun W k hb hk => by subst hk; exact at_good W (ht.below hb) [1, 10, 134, 16] 4 rfl (by decide) (by decide) _ (by kernel_rfl)
  have A5 : Hid (∀ W k, Below w.heap.size w W → k = W.heap.size → Calls Tryd.prog 25 #[.slice (some ⟨k, 0, none⟩) 5 5] (W.alloc (.cells #[.int .u16 1, .int .u16 6, .int .u16 16, .int .u16 8, .int .u16 132] 23)) fun e w' => e = .returned (.tuple #[.slice none 0 0, .agg #[.int .i64 160, .int .u16 132]]) ∧ Below W.heap.size W w') := fun W k hb hk => by subst hk; exact at_bad W (ht.below hb) [1, 6, 16, 8, 132] 5 rfl (by decide) (by decide) 160 132 (by kernel_rfl)
  have A6 : Hid (∀ W k, Below w.heap.size w W → k = W.heap.size → Calls Tryd.prog 25 #[.slice (some ⟨k, 0, none⟩) 2 2] (W.alloc (.cells #[.int .u16 2, .int .u16 9] 23)) fun e w' => e = .returned (.tuple #[.slice none 0 0, .agg #[.int .i64 163, .int .u16 128]]) ∧ Below W.heap.size W w') := fun W k hb hk => by subst hk; exact at_bad W (ht.below hb) [2, 9] 2 rfl (by decide) (by decide) 163 128 (by kernel_rfl)
  have A7 : Hid (∀ W k, Below w.heap.size w W → k = W.heap.size → Calls Tryd.prog 11 #[.agg #[.slice (some ⟨k, 0, none⟩) 3 3, .int .u16 0, .slice none 0 0, .slice none 0 0]] (W.alloc (.cells #[.int .u8 1, .int .u8 0, .int .u8 2] 5)) fun e w' => e = .returned (.tuple #[.slice none 0 0, .agg #[.int .i64 74, .int .u16 0]]) ∧ Below W.heap.size W w') := fun W k hb hk => by subst hk; exact words_bad_fresh W (ht.below hb) [1, 0, 2] 3 rfl (by decide) (by decide) 74 0 (by kernel_rfl)
  clear ht
  go_enter Tryd.func6, Tryd.ntmps6
  go_wp2_with (fail)
  refine FIX.out.mono ?_
  rintro e W0 ⟨rfl, b0⟩
  have B0 := Lib.hid b0
  clear b0 FIX
  go_wp2_with (fail)
  refine (A0.out W0 _ B0.out rfl).mono ?_
  rintro e W1 ⟨⟨u, ts, rfl, p⟩, b⟩
  have B1 := Lib.hid (b_then B0.out b)
  obtain ⟨g, cap, ia, ic, ca, cc, rfl, c0, c1, c2, ri, rc⟩ := p.at_ 0 (by decide)
  obtain ⟨gi, rfl, d0, d1, d2, d3, d4⟩ := ri.at_ (i := 0) (by decide)
  obtain ⟨gi', e', f0, f1, f2, f3, f4⟩ := ri.at_ (i := 1) (by decide)
  obtain rfl : gi = gi' := by cases e'; rfl
  clear e'
  obtain ⟨gc, rfl, k0⟩ := rc.at_ (i := 0) (by decide)
  have O0 : Hid (∀ W, Below W1.heap.size W1 W → Calls Tryd.prog 26 #[.slice (some ⟨g, 0, none⟩) 1 cap] W fun e w' => e = .returned (.tuple #[.slice none 0 0, .agg #[.int .i64 163, .int .u16 128]]) ∧ Below W.heap.size W w') := fun W hb =>
    order_bad W _ (W0.heap.size + 1) ts [(128, [128])] (p.row.move (fun k hk => hb.block k (p.row.own k hk).1)) (Reps.lreps (p.reps.move (fun k hk => hb.block k (p.reps.lt k hk).1)) (by decide)) (by decide) 50 128 (by kernel_rfl)
  clear p ri rc b A0 B0
  simp only [Nat.zero_mul, Nat.zero_add, Nat.one_mul, List.length_cons, List.length_nil, List.getElem_cons_zero, List.getElem_cons_succ] at c0 c1 c2 d0 d1 d2 d3 d4 f0 f1 f2 f3 f4 k0
  clear d0 d1 d3 d4 f0 f1 f2 f4
  have c0 := cell_alloc_old (o := .cells #[.int .i64 0, .int .u16 0] 33) c0
  have c1 := cell_alloc_old (o := .cells #[.int .i64 0, .int .u16 0] 33) c1
  have c2 := cell_alloc_old (o := .cells #[.int .i64 0, .int .u16 0] 33) c2
  have d2 := cell_alloc_old (o := .cells #[.int .i64 0, .int .u16 0] 33) d2
  have f3 := cell_alloc_old (o := .cells #[.int .i64 0, .int .u16 0] 33) f3
  have k0 := cell_alloc_old (o := .cells #[.int .i64 0, .int .u16 0] 33) k0
  go_wp2_with (fail)
  refine (O0.out _ (b_alloc (Below.refl _ _) _)).mono ?_
  rintro e W2 ⟨rfl, b⟩
  have B2 := Lib.hid (b_then (b_alloc B1.out _) b)
  clear b c0 c1 c2 d2 f3 k0 O0 B1
  have V0 := Lib.hid (VAt.fresh W2 163 128)
  have b0 := b_alloc B2.out (.cells #[.int .i64 163, .int .u16 128] 33)
  have BB := Lib.hid b0
  clear b0
  go_wp2_with (fail)
  refine (A1.out _ _ BB.out (by simp)).mono ?_
  rintro e W3 ⟨rfl, b⟩
  replace V0 := Lib.hid (V0.out.below b)
  have B3 := Lib.hid (b_then BB.out b)
  clear b BB B2 A1
  have V1 := Lib.hid (VAt.fresh W3 160 130)
  have b0 := b_alloc B3.out (.cells #[.int .i64 160, .int .u16 130] 33)
  have BB := Lib.hid b0
  clear b0
  go_wp2_with (fail)
  refine (A2.out _ _ BB.out (by simp)).mono ?_
  rintro e W4 ⟨rfl, b⟩
  replace V0 := Lib.hid ((V0.out.below (b_alloc (Below.refl _ _) _)).below b)
  replace V1 := Lib.hid (V1.out.below b)
  have B4 := Lib.hid (b_then BB.out b)
  clear b BB B3 A2
  have V2 := Lib.hid (VAt.fresh W4 161 132)
  have b0 := b_alloc B4.out (.cells #[.int .i64 161, .int .u16 132] 33)
  have BB := Lib.hid b0
  clear b0
  go_wp2_with (fail)
  refine (A3.out _ _ BB.out (by simp)).mono ?_
  rintro e W5 ⟨rfl, b⟩
  replace V0 := Lib.hid ((V0.out.below (b_alloc (Below.refl _ _) _)).below b)
  replace V1 := Lib.hid ((V1.out.below (b_alloc (Below.refl _ _) _)).below b)
  replace V2 := Lib.hid (V2.out.below b)
  have B5 := Lib.hid (b_then BB.out b)
  clear b BB B4 A3
  have V3 := Lib.hid (VAt.fresh W5 162 132)
  have b0 := b_alloc B5.out (.cells #[.int .i64 162, .int .u16 132] 33)
  have BB := Lib.hid b0
  clear b0
  go_wp2_with (fail)
  refine (A4.out _ _ BB.out (by simp)).mono ?_
  rintro e W6 ⟨⟨u, ts, rfl, p⟩, b⟩
  obtain ⟨g, cap, ia, ic, ca, cc, rfl, c0, c1, c2, ri, rc⟩ := p.at_ 0 (by decide)
  simp only [Nat.zero_mul, Nat.zero_add, List.length_cons, List.length_nil, List.getElem_cons_zero] at c1
  have C1 : Hid (W6.cell? ⟨g, 1, none⟩ = some (.slice ia 2 ic)) := c1
  clear p c0 c1 c2 ri rc
  replace V0 := Lib.hid ((V0.out.below (b_alloc (Below.refl _ _) _)).below b)
  replace V1 := Lib.hid ((V1.out.below (b_alloc (Below.refl _ _) _)).below b)
  replace V2 := Lib.hid ((V2.out.below (b_alloc (Below.refl _ _) _)).below b)
  replace V3 := Lib.hid (V3.out.below b)
  have B6 := Lib.hid (b_then BB.out b)
  clear b BB B5 A4
  have V4 := Lib.hid (VAt.fresh W6 0 0)
  have b0 := b_alloc B6.out (.cells #[.int .i64 0, .int .u16 0] 33)
  have BB := Lib.hid b0
  clear b0
  go_wp2_with (fail)
  refine (A5.out _ _ BB.out (by simp)).mono ?_
  rintro e W7 ⟨rfl, b⟩
  replace V0 := Lib.hid ((V0.out.below (b_alloc (Below.refl _ _) _)).below b)
  replace V1 := Lib.hid ((V1.out.below (b_alloc (Below.refl _ _) _)).below b)
  replace V2 := Lib.hid ((V2.out.below (b_alloc (Below.refl _ _) _)).below b)
  replace V3 := Lib.hid ((V3.out.below (b_alloc (Below.refl _ _) _)).below b)
  replace V4 := Lib.hid (V4.out.below b)
  replace C1 := Lib.hid ((b.cell (World.block_lt_of_cell? _ _ (cell_alloc_old C1.out))).trans (cell_alloc_old C1.out))
  have B7 := Lib.hid (b_then BB.out b)
  clear b BB B6 A5
  have V5 := Lib.hid (VAt.fresh W7 160 132)
  have b0 := b_alloc B7.out (.cells #[.int .i64 160, .int .u16 132] 33)
  have BB := Lib.hid b0
  clear b0
  go_wp2_with (fail)
  refine (A6.out _ _ BB.out (by simp)).mono ?_
  rintro e W8 ⟨rfl, b⟩
  replace V0 := Lib.hid ((V0.out.below (b_alloc (Below.refl _ _) _)).below b)
  replace V1 := Lib.hid ((V1.out.below (b_alloc (Below.refl _ _) _)).below b)
  replace V2 := Lib.hid ((V2.out.below (b_alloc (Below.refl _ _) _)).below b)
  replace V3 := Lib.hid ((V3.out.below (b_alloc (Below.refl _ _) _)).below b)
  replace V4 := Lib.hid ((V4.out.below (b_alloc (Below.refl _ _) _)).below b)
  replace V5 := Lib.hid (V5.out.below b)
  replace C1 := Lib.hid ((b.cell (World.block_lt_of_cell? _ _ (cell_alloc_old C1.out))).trans (cell_alloc_old C1.out))
  have B8 := Lib.hid (b_then BB.out b)
  clear b BB B7 A6
  have V6 := Lib.hid (VAt.fresh W8 163 128)
  have b0 := b_alloc B8.out (.cells #[.int .i64 163, .int .u16 128] 33)
  have BB := Lib.hid b0
  clear b0
  go_wp2_with (fail)
  refine (A7.out _ _ BB.out (by simp)).mono ?_
  rintro e W9 ⟨rfl, b⟩
  replace V0 := Lib.hid ((V0.out.below (b_alloc (Below.refl _ _) _)).below b)
  replace V1 := Lib.hid ((V1.out.below (b_alloc (Below.refl _ _) _)).below b)
  replace V2 := Lib.hid ((V2.out.below (b_alloc (Below.refl _ _) _)).below b)
  replace V3 := Lib.hid ((V3.out.below (b_alloc (Below.refl _ _) _)).below b)
  replace V4 := Lib.hid ((V4.out.below (b_alloc (Below.refl _ _) _)).below b)
  replace V5 := Lib.hid ((V5.out.below (b_alloc (Below.refl _ _) _)).below b)
  replace V6 := Lib.hid (V6.out.below b)
  replace C1 := Lib.hid ((b.cell (World.block_lt_of_cell? _ _ (cell_alloc_old C1.out))).trans (cell_alloc_old C1.out))
  have B9 := Lib.hid (b_then BB.out b)
  clear b BB B8 A7
  have V7 := Lib.hid (VAt.fresh W9 74 0)
  have b0 := b_alloc B9.out (.cells #[.int .i64 74, .int .u16 0] 33)
  have BB := Lib.hid b0
  clear b0
  go_wp2_with (fail)
  refine (order_nil _).mono ?_
  rintro e W10 ⟨⟨u, rfl, p⟩, b⟩
  obtain ⟨uA, uc, rfl⟩ := p.slice
  clear p
  replace V0 := Lib.hid ((V0.out.below (b_alloc (Below.refl _ _) _)).below b)
  replace V1 := Lib.hid ((V1.out.below (b_alloc (Below.refl _ _) _)).below b)
  replace V2 := Lib.hid ((V2.out.below (b_alloc (Below.refl _ _) _)).below b)
  replace V3 := Lib.hid ((V3.out.below (b_alloc (Below.refl _ _) _)).below b)
  replace V4 := Lib.hid ((V4.out.below (b_alloc (Below.refl _ _) _)).below b)
  replace V5 := Lib.hid ((V5.out.below (b_alloc (Below.refl _ _) _)).below b)
  replace V6 := Lib.hid ((V6.out.below (b_alloc (Below.refl _ _) _)).below b)
  replace V7 := Lib.hid (V7.out.below b)
  replace C1 := Lib.hid ((b.cell (World.block_lt_of_cell? _ _ (cell_alloc_old C1.out))).trans (cell_alloc_old C1.out))
  have B10 := Lib.hid (b_then BB.out b)
  clear b BB B9
  have LB := Lib.hid (b_alloc B10.out (.cells #[.int .i64 0, .int .u16 0] 33))
  have x0 := cell_alloc_old (o := .cells #[.int .i64 0, .int .u16 0] 33) V0.out.c0
  have y0 := cell_alloc_old (o := .cells #[.int .i64 0, .int .u16 0] 33) V0.out.c1
  have x1 := cell_alloc_old (o := .cells #[.int .i64 0, .int .u16 0] 33) V1.out.c0
  have y1 := cell_alloc_old (o := .cells #[.int .i64 0, .int .u16 0] 33) V1.out.c1
  have x2 := cell_alloc_old (o := .cells #[.int .i64 0, .int .u16 0] 33) V2.out.c0
  have y2 := cell_alloc_old (o := .cells #[.int .i64 0, .int .u16 0] 33) V2.out.c1
  have x3 := cell_alloc_old (o := .cells #[.int .i64 0, .int .u16 0] 33) V3.out.c0
  have y3 := cell_alloc_old (o := .cells #[.int .i64 0, .int .u16 0] 33) V3.out.c1
  have x4 := cell_alloc_old (o := .cells #[.int .i64 0, .int .u16 0] 33) V4.out.c0
  have y4 := cell_alloc_old (o := .cells #[.int .i64 0, .int .u16 0] 33) V4.out.c1
  have x5 := cell_alloc_old (o := .cells #[.int .i64 0, .int .u16 0] 33) V5.out.c0
  have y5 := cell_alloc_old (o := .cells #[.int .i64 0, .int .u16 0] 33) V5.out.c1
  have x6 := cell_alloc_old (o := .cells #[.int .i64 0, .int .u16 0] 33) V6.out.c0
  have y6 := cell_alloc_old (o := .cells #[.int .i64 0, .int .u16 0] 33) V6.out.c1
  have x7 := cell_alloc_old (o := .cells #[.int .i64 0, .int .u16 0] 33) V7.out.c0
  have y7 := cell_alloc_old (o := .cells #[.int .i64 0, .int .u16 0] 33) V7.out.c1
  have C2 := cell_alloc_old (o := .cells #[.int .i64 0, .int .u16 0] 33) C1.out
  go_wp2_with (fail)
  go_ret
  exact ⟨rfl, LB.out⟩
end Go.Proofs.YtabeljpnmmfpgaaDoor
