/-
  awake: a new memory keeps a byte, a pixel, a tone.
-/
import Derived.Test.YtabeljpnmmfpgaaMemTones
namespace Go.Proofs.Ytabeljpnmmfpgaa
open Go.RowKit Go.MapKept
set_option linter.unusedVariables false
set_option linter.unusedSimpArgs false

theorem MemDone.below {w0 w w' : World} {B b : Nat} {M' : Mm} {S : Nat → Prop} (h : MemDone w w' b M' S) (h0 : Below B w0 w) (hB : B ≤ w.heap.size) (hS : ∀ i, S i → B ≤ i) : Below B w0 w' ∧ ∃ S', MemRep w' b M' S' ∧ ∀ i, S' i → B ≤ i := by
  obtain ⟨u, S', r, hs⟩ := h
  refine ⟨h0.trans (u.below hB hS), S', r, fun i hi => ?_⟩
  rcases hs i hi with h' | h'
  · exact hS i h'
  · omega
theorem Quiet.below {B : Nat} {a b : World} (h : Quiet a b) : Below B a b := by obtain ⟨n, rfl⟩ := h; exact ⟨rfl, rfl, rfl, Nat.le_refl _, fun _ _ => rfl⟩

def awakeMem : Mm := ((((newMem [(1, [9])] 1).store 65280 1).store 32768 7).plot 2 1 5).play 440 3

theorem awake_banks (w : World) : BanksIn ((w.alloc (.cells #[.int .u8 9] 5)).alloc (.cells #[.int .i64 1, .slice (some ⟨w.heap.size, 0, none⟩) 1 1] 37)) (.slice (some ⟨w.heap.size + 1, 0, none⟩) 1 1) [(1, [9])] (fun _ => .slice (some ⟨w.heap.size, 0, none⟩) 1 1) := by
  have e : (w.alloc (.cells #[.int .u8 9] 5)).heap.size = w.heap.size + 1 := by simp
  have h1 := heap_alloc_at (w.alloc (.cells #[.int .u8 9] 5)) (.cells #[.int .i64 1, .slice (some ⟨w.heap.size, 0, none⟩) 1 1] 37)
  rw [e] at h1
  have h0 := heap_alloc_old (o' := .cells #[.int .i64 1, .slice (some ⟨w.heap.size, 0, none⟩) 1 1] 37) (heap_alloc_at w (.cells #[.int .u8 9] 5))
  refine ⟨⟨_, _, rfl, fun _ => ⟨_, _, rfl, fun i hi => ?_⟩⟩, fun i hi => ?_, fun i hi => ?_⟩
  all_goals
    obtain rfl : i = 0 := by simpa using hi
  · exact ⟨by rw [cell_of h1]; rfl, by rw [cell_of h1]; rfl⟩
  · refine ⟨_, _, rfl, (fun e => by cases e), fun _ => ⟨_, _, rfl, fun j hj => ?_⟩⟩
    obtain rfl : j = 0 := by simpa using hj
    rw [cell_of h0]; rfl
  · intro x hx
    simp at hx
    subst hx; decide

theorem awake_ok : banksOk [(1, [9])] := by
  intro i hi
  obtain rfl : i = 0 := by simpa using hi
  exact ⟨by decide, by decide, by decide⟩

set_option maxRecDepth 100000 in
set_option maxHeartbeats 2000000 in
theorem awake_any (w : World) : Calls Try.prog 9 #[] w fun e w' => e = .returned (.bool true) ∧ Below w.heap.size w w' := by
  have hb := Lib.hid (awake_banks w)
  have e1 : Hid ((awakeMem).load 32768 = 7) := by show _ = _; kernel_rfl
  have e2 : Hid ((awakeMem).load 49218 = 5) := by show _ = _; kernel_rfl
  have e3 : Hid ((awakeMem).load 16384 = 9) := by show _ = _; kernel_rfl
  have e4 : Hid (awakeMem.tones = [(0, 440, 3)]) := by show _ = _; kernel_rfl
  have l0 : (newMem [(1, [9])] 1).tones.length < 1000000000 := by show (0 : Nat) < 1000000000; omega
  have l1 : ((newMem [(1, [9])] 1).store 65280 1).tones.length < 1000000000 := by rw [show ((newMem [(1, [9])] 1).store 65280 1).tones = [] by kernel_rfl]; decide
  have l2 : (((newMem [(1, [9])] 1).store 65280 1).store 32768 7).tones.length < 1000000000 := by rw [show (((newMem [(1, [9])] 1).store 65280 1).store 32768 7).tones = [] by kernel_rfl]; decide
  have l3 : ((((newMem [(1, [9])] 1).store 65280 1).store 32768 7).plot 2 1 5).tones.length + 3 < 1000000000 := by rw [show ((((newMem [(1, [9])] 1).store 65280 1).store 32768 7).plot 2 1 5).tones = [] by kernel_rfl]; decide
  have l4 : awakeMem.tones.length < 1000000000 := by rw [show awakeMem.tones = [(0, 440, 3)] by kernel_rfl]; decide
  have hl := Lib.hid (show _ ∧ _ ∧ _ ∧ _ ∧ _ from ⟨l0, l1, l2, l3, l4⟩)
  clear l0 l1 l2 l3 l4
  go_enter Try.func9, Try.ntmps9
  go_wp2_with (fail)
  refine (new_any _ _ _ _ hb.out (by decide)).mono ?_
  rintro e w1 ⟨b1, h | h⟩
  · obtain ⟨_, rfl, S1, r1, hS1⟩ := h
    have e0 : ((w.alloc (.cells #[.int .u8 9] 5)).alloc (.cells #[.int .i64 1, .slice (some ⟨w.heap.size, 0, none⟩) 1 1] 37)).heap.size = w.heap.size + 2 := by simp
    have B1 : Below w.heap.size w w1 := ((((Below.refl _ _).alloc (Nat.le_refl _) _).alloc (by simp) _).trans (b1.mono (by simp; omega)))
    have R1 : Hid (∃ S, MemRep w1 (w.heap.size + 2 + 1) (newMem [(1, [9])] 1) S ∧ ∀ i, S i → w.heap.size ≤ i) := by
      rw [e0] at r1 hS1
      exact ⟨S1, r1, fun i hi => by have := hS1 i hi; omega⟩
    have sz1 : w.heap.size + 2 ≤ w1.heap.size := by have := b1.size; rw [e0] at this; exact this
    clear r1 hS1 e0 b1
    go_wp2_with (fail)
    obtain ⟨S1, r1, hS1⟩ := R1.out
    refine (choose_rep r1 (by omega) (by omega) hl.out.1).mono ?_
    rintro e w2 ⟨rfl, d2⟩
    obtain ⟨B2, R2⟩ := d2.below B1 (by omega) hS1
    have sz2 := d2.size
    have HR2 := Lib.hid R2
    clear R2 d2 R1 r1 hS1
    go_wp2_with (fail)
    obtain ⟨S2, r2, hS2⟩ := HR2.out
    refine (store_rep r2 (by omega) (by omega) (by omega) (by omega) hl.out.2.1).mono ?_
    rintro e w3 ⟨rfl, d3⟩
    obtain ⟨B3, R3⟩ := d3.below B2 (by omega) hS2
    have sz3 := d3.size
    have HR3 := Lib.hid R3
    clear R3 d3 HR2 r2 hS2 B2
    go_wp2_with (fail)
    obtain ⟨S3, r3, hS3⟩ := HR3.out
    refine (plot_rep r3 (by omega) (by omega) (by omega) (by omega) hl.out.2.2.1).mono ?_
    rintro e w4 ⟨rfl, d4⟩
    obtain ⟨B4, R4⟩ := d4.below B3 (by omega) hS3
    have sz4 := d4.size
    have HR4 := Lib.hid R4
    clear R4 d4 HR3 r3 hS3 B3
    go_wp2_with (fail)
    obtain ⟨S4, r4, hS4⟩ := HR4.out
    refine (play_rep r4 (by omega) (by omega) (by omega) (by omega) hl.out.2.2.2.1).mono ?_
    rintro e w5 ⟨rfl, d5⟩
    obtain ⟨B5, R5⟩ := d5.below B4 (by omega) hS4
    have sz5 := d5.size
    have HR5 : Hid (∃ S', MemRep w5 (w.heap.size + 2 + 1) awakeMem S' ∧ ∀ i, S' i → w.heap.size ≤ i) := R5
    clear R5 d5 HR4 r4 hS4 B4
    go_wp2_with (fail)
    obtain ⟨S5, r5, hS5⟩ := HR5.out
    refine (tones_rep r5 hl.out.2.2.2.2).mono ?_
    rintro e w6 ⟨v', rfl, ho, b6⟩
    have B6 : Below w.heap.size w w6 := B5.trans (b6.mono (by omega))
    have r6 := Lib.hid (r5.stays (fun i hi => b6.block i (r5.lt i hi)))
    rw [e4.out] at ho
    have hex : ∃ g cap, v' = .slice (some ⟨g, 0, none⟩) 1 cap ∧ w6.cell? ⟨g, 1, none⟩ = some (.int .u16 440) := by
      rcases ho.2 with ⟨_, h0⟩ | ⟨g, cap, cur, rfl, hg, hh, _, _, _, hc⟩
      · cases h0
      · refine ⟨g, cap, rfl, ?_⟩
        rw [cell_of hh, ← Array.getElem?_toList]
        have : (cur.toList.take (1 * 3))[1]? = some (.int .u16 440) := by rw [show cur.toList.take (1 * 3) = toneCells [(0, 440, 3)] from hc]; rfl
        rw [List.getElem?_take] at this
        simpa using this
    obtain ⟨g, cap, rfl, hp⟩ := hex
    clear ho b6 HR5 r5 hS5 B5
    go_wp2_with (fail)
    refine (load_rep r6.out (by omega) (by omega)).mono ?_
    rintro e w7 ⟨rfl, q7⟩
    rw [e1.out]
    have r7 := Lib.hid (r6.out.quiet q7)
    have p7 : w7.cell? ⟨g, 1, none⟩ = some (.int .u16 440) := by obtain ⟨n, rfl⟩ := q7; exact hp
    have B7 : Below w.heap.size w w7 := B6.trans q7.below
    clear q7 hp r6 B6
    go_wp2_with (fail)
    refine (load_rep r7.out (by omega) (by omega)).mono ?_
    rintro e w8 ⟨rfl, q8⟩
    rw [e2.out]
    have r8 := Lib.hid (r7.out.quiet q8)
    have p8 : w8.cell? ⟨g, 1, none⟩ = some (.int .u16 440) := by obtain ⟨n, rfl⟩ := q8; exact p7
    have B8 : Below w.heap.size w w8 := B7.trans q8.below
    clear q8 p7 r7 B7
    go_wp2_with (fail)
    refine (load_rep r8.out (by omega) (by omega)).mono ?_
    rintro e w9 ⟨rfl, q9⟩
    rw [e3.out]
    have p9 : w9.cell? ⟨g, 1, none⟩ = some (.int .u16 440) := by obtain ⟨n, rfl⟩ := q9; exact p8
    have B9 : Below w.heap.size w w9 := B8.trans q9.below
    clear q9 p8 r8 B8
    go_wp2_with (fail)
    go_ret
    exact ⟨rfl, B9⟩
  · exact absurd awake_ok h.1
end Go.Proofs.Ytabeljpnmmfpgaa
