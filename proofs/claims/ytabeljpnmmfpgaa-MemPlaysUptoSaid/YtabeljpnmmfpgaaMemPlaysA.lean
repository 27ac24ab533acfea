/-
  A step of a script that writes: both memories do it alike.
-/
import Derived.Test.YtabeljpnmmfpgaaMemPair
import Derived.Test.YtabeljpnmmfpgaaMemMeth
import Derived.Test.YtabeljpnmmfpgaaRefStore
import Derived.Test.YtabeljpnmmfpgaaMemAwake
namespace Go.Proofs.Ytabeljpnmmfpgaa
open Go.RowKit Go.MapKept
set_option linter.unusedVariables false
set_option linter.unusedSimpArgs false

def PlayPost (W : World) (q base k : Nat) (e : Ending) (W' : World) : Prop :=
  e = .returned (.bool true) ∧ (∃ M b c S T, PairAt W' q base (k + 3) M b c S T) ∧ Upd W W' (fun x => base ≤ x)

/-- What the head of plays needs, and what it leaves for a step at memory i. -/
structure PlayHead (W Wb : World) (q base k : Nat) (M : Nat → Mm) (b c : Nat → Nat) (S T : Nat → Nat → Prop) (o : Opv) : Prop where
  pair : PairAt Wb q base k M b c S T
  below : Below W.heap.size W Wb
  box : Wb.heap[W.heap.size]? = some (.cells o.cells 76 (0, 0))
  low : base ≤ W.heap.size
  out : ∀ i, i < 2 → ¬ S i W.heap.size ∧ ¬ T i W.heap.size

theorem PlayHead.start {W : World} {q base k : Nat} {M : Nat → Mm} {b c : Nat → Nat} {S T : Nat → Nat → Prop} (h : PairAt W q base k M b c S T) (o : Opv) : PlayHead W (W.alloc (.cells o.cells 76)) q base k M b c S T o :=
  ⟨h.below ((Below.refl _ _).alloc (Nat.le_refl _) _), (Below.refl _ _).alloc (Nat.le_refl _) _, heap_alloc_at W _, by have := h.low.1; have := heap_lt h.obj; omega, fun i hi => ⟨fun hx => by have := h.slt hi hx; omega, fun hx => by have := h.tlt hi hx; omega⟩⟩
theorem PlayHead.next {W Wb Wc : World} {q base k : Nat} {M : Nat → Mm} {b c : Nat → Nat} {S T : Nat → Nat → Prop} {o : Opv} (h : PlayHead W Wb q base k M b c S T o) (hb : Below Wb.heap.size Wb Wc) : PlayHead W Wc q base k M b c S T o :=
  ⟨h.pair.below hb, h.below.trans (hb.mono h.below.size), (hb.block _ (heap_lt h.box)).trans h.box, h.low, h.out⟩

theorem PlayHead.fin {W Wb W1 W2 : World} {q base k : Nat} {M : Nat → Mm} {b c : Nat → Nat} {S T : Nat → Nat → Prop} {o : Opv} (h : PlayHead W Wb q base k M b c S T o) {i : Nat} (hi : i < 2) {M' : Mm} (hd : MemDone Wb W1 (b i) M' (S i)) (hr : RefDone W1 W2 (c i) M' (T i)) (ht : M'.tones.length ≤ k + 3) (hc : M'.chosen < 16) : PlayPost W q base k (.returned (.bool true)) W2 := by
  obtain ⟨⟨M2, S2, T2, h2⟩, hu⟩ := h.pair.two hi hd hr (k' := k + 3) (by omega) ht hc
  exact ⟨rfl, ⟨M2, b, c, S2, T2, h2⟩, (Upd.of_below h.below _).trans hu (fun _ _ h => h)⟩

/-- Behind the first memory's step: the box, the other one. -/
theorem PlayHead.mid {W Wb W1 : World} {q base k : Nat} {M : Nat → Mm} {b c : Nat → Nat} {S T : Nat → Nat → Prop} {o : Opv} (h : PlayHead W Wb q base k M b c S T o) {i : Nat} (hi : i < 2) {M' : Mm} (hd : MemDone Wb W1 (b i) M' (S i)) :
    RefRep W1 (c i) (M i) (T i) ∧ W1.heap[W.heap.size]? = some (.cells o.cells 76 (0, 0)) := by
  obtain ⟨h1, h2⟩ := h.pair.one hi hd
  exact ⟨h1, (h2 _ (heap_lt h.box) (h.out i hi).1).trans h.box⟩

theorem PlayHead.same {W Wb W2 : World} {q base k : Nat} {M : Nat → Mm} {b c : Nat → Nat} {S T : Nat → Nat → Prop} {o : Opv} (h : PlayHead W Wb q base k M b c S T o) (hb : Below Wb.heap.size Wb W2) : PlayPost W q base k (.returned (.bool true)) W2 :=
  ⟨rfl, ⟨M, b, c, S, T, { h.pair.below hb with tones := fun i hi => Nat.le_trans (h.pair.tones i hi) (by omega) }⟩, Upd.of_below (h.below.trans (hb.mono h.below.size)) _⟩
theorem Mm.store_chosen (M : Mm) (a x : Int) (h : M.chosen < 16) : (M.store a x).chosen < 16 := by
  unfold Mm.store
  repeat' split
  all_goals first | exact h | (dsimp only; omega) | (dsimp only; exact h)
theorem Mm.setCell_chosen (M : Mm) (a x : Int) (h : M.chosen < 16) : (M.setCell a x).chosen < 16 := Mm.store_chosen _ _ _ (Mm.store_chosen _ _ _ h)
theorem Mm.plot_chosen (M : Mm) (x y c : Int) (h : M.chosen < 16) : (M.plot x y c).chosen < 16 := by
  unfold Mm.plot; split
  · exact Mm.store_chosen _ _ _ h
  · exact h
theorem Mm.play_chosen (M : Mm) (p v : Int) (h : M.chosen < 16) : (M.play p v).chosen < 16 := Mm.store_chosen _ _ _ (Mm.setCell_chosen _ _ _ h)
theorem Mm.plot_tones (M : Mm) (x y c : Int) : (M.plot x y c).tones.length ≤ M.tones.length + 1 := by
  unfold Mm.plot; split
  · exact Mm.store_tones _ _ _
  · omega
theorem Mm.play_tones (M : Mm) (p v : Int) : (M.play p v).tones.length ≤ M.tones.length + 3 := by
  unfold Mm.play
  have h1 := Mm.store_tones (M.setCell 65284 p) 65286 v
  have h2 := Mm.setCell_tones M 65284 p
  omega

set_option maxRecDepth 100000 in
set_option maxHeartbeats 2000000 in
theorem plays_store {W : World} {q base k : Nat} {M : Nat → Mm} {b c : Nat → Nat} {S T : Nat → Nat → Prop} (h : PairAt W q base k M b c S T) (which at_ x y cc n : Int) (ho : (⟨3, which, at_, x, y, cc, n⟩ : Opv).Ok) (hk : k + 3 < 1000000000) :
    Calls Try.prog 34 #[.pointer (some ⟨q, 0, none⟩), .agg #[.int .i64 3, .int .i64 which, .int .u16 at_, .int .u16 x, .int .u16 y, .int .u16 cc, .int .i64 n]] W (PlayPost W q base k) := by
  have HD := Lib.hid (PlayHead.start h ⟨3, which, at_, x, y, cc, n⟩)
  obtain ⟨⟨a0, a1⟩, ⟨x0, x1⟩, ⟨y0, y1⟩, ⟨k0, k1⟩⟩ := ho
  dsimp only at a0 a1 x0 x1 y0 y1 k0 k1
  have SL : Hid (∀ i, i < 2 → (W.alloc (.cells #[.int .i64 3, .int .i64 which, .int .u16 at_, .int .u16 x, .int .u16 y, .int .u16 cc, .int .i64 n] 76)).cell? ⟨q, i, none⟩ = some (.pointer (some ⟨b i, 0, none⟩)) ∧ (W.alloc (.cells #[.int .i64 3, .int .i64 which, .int .u16 at_, .int .u16 x, .int .u16 y, .int .u16 cc, .int .i64 n] 76)).cell? ⟨q, 2 + i, none⟩ = some (.pointer (some ⟨c i, 0, none⟩))) := fun i hi => HD.out.pair.slots hi
  clear h
  obtain ⟨i, hi, hw⟩ : ∃ i : Nat, i < 2 ∧ (which.tmod 2 + 2) % 2 = (i : Int) := ⟨((which.tmod 2 + 2) % 2).toNat, by have := which_cases which; omega, by have := which_cases which; omega⟩
  have HW := Lib.hid hw
  have wl : -1 ≤ which.tmod 2 := by have := which_cases which; omega
  have wu : which.tmod 2 ≤ 1 := by have := which_cases which; omega
  clear hw
  go_enter Try.func34, Try.ntmps34
  go_upto_region 2 with (fail)
  rw [HW.out]
  have i0 : (0 : Int) ≤ (i : Int) := by omega
  have i2 : (i : Int) < 2 := by omega
  obtain ⟨s1, s2⟩ := SL.out i hi
  go_quiet (fail)
  have HN := Lib.hid (HD.out.next (Quiet.below ⟨nq, rfl⟩))
  have HT := Lib.hid (HD.out.pair.tones i hi)
  clear s1 s2
  go_wp2_with (first
    | (go_at_call 14; refine (store_rep (HN.out.pair.mem i hi) a0 a1 (by omega) (by omega) (by have := HT.out; omega)).mono ?_; rintro e w1 ⟨rfl, hd1⟩; obtain ⟨r1, b1⟩ := HN.out.mid hi hd1; obtain ⟨u0, u1, u2, u3, u4, u5, u6⟩ := box7 b1; dsimp only at u0 u1 u2 u3 u4 u5 u6; have D1 := Lib.hid hd1; have R1 := Lib.hid r1; clear hd1 r1 b1)
    | (go_at_call 47; refine (refStore_rep R1.out a0 a1 (by omega) (by omega) (by have := HT.out; omega)).mono ?_; rintro e w2 ⟨rfl, hd2⟩; have FIN := Lib.hid (HN.out.fin hi D1.out hd2 (by have := HT.out; have := Mm.store_tones (M i) at_ (x % 256); omega) (Mm.store_chosen _ _ _ (HN.out.pair.ch i hi))); clear hd2))
  go_ret
  exact FIN.out

set_option maxRecDepth 100000 in
set_option maxHeartbeats 2000000 in
theorem plays_set {W : World} {q base k : Nat} {M : Nat → Mm} {b c : Nat → Nat} {S T : Nat → Nat → Prop} (h : PairAt W q base k M b c S T) (which at_ x y cc n : Int) (ho : (⟨4, which, at_, x, y, cc, n⟩ : Opv).Ok) (hk : k + 3 < 1000000000) :
    Calls Try.prog 34 #[.pointer (some ⟨q, 0, none⟩), .agg #[.int .i64 4, .int .i64 which, .int .u16 at_, .int .u16 x, .int .u16 y, .int .u16 cc, .int .i64 n]] W (PlayPost W q base k) := by
  have HD := Lib.hid (PlayHead.start h ⟨4, which, at_, x, y, cc, n⟩)
  obtain ⟨⟨a0, a1⟩, ⟨x0, x1⟩, ⟨y0, y1⟩, ⟨k0, k1⟩⟩ := ho
  dsimp only at a0 a1 x0 x1 y0 y1 k0 k1
  have SL : Hid (∀ i, i < 2 → (W.alloc (.cells #[.int .i64 4, .int .i64 which, .int .u16 at_, .int .u16 x, .int .u16 y, .int .u16 cc, .int .i64 n] 76)).cell? ⟨q, i, none⟩ = some (.pointer (some ⟨b i, 0, none⟩)) ∧ (W.alloc (.cells #[.int .i64 4, .int .i64 which, .int .u16 at_, .int .u16 x, .int .u16 y, .int .u16 cc, .int .i64 n] 76)).cell? ⟨q, 2 + i, none⟩ = some (.pointer (some ⟨c i, 0, none⟩))) := fun i hi => HD.out.pair.slots hi
  clear h
  obtain ⟨i, hi, hw⟩ : ∃ i : Nat, i < 2 ∧ (which.tmod 2 + 2) % 2 = (i : Int) := ⟨((which.tmod 2 + 2) % 2).toNat, by have := which_cases which; omega, by have := which_cases which; omega⟩
  have HW := Lib.hid hw
  have wl : -1 ≤ which.tmod 2 := by have := which_cases which; omega
  have wu : which.tmod 2 ≤ 1 := by have := which_cases which; omega
  clear hw
  go_enter Try.func34, Try.ntmps34
  go_upto_region 2 with (fail)
  rw [HW.out]
  have i0 : (0 : Int) ≤ (i : Int) := by omega
  have i2 : (i : Int) < 2 := by omega
  obtain ⟨s1, s2⟩ := SL.out i hi
  go_quiet (fail)
  have HN := Lib.hid (HD.out.next (Quiet.below ⟨nq, rfl⟩))
  have HT := Lib.hid (HD.out.pair.tones i hi)
  clear s1 s2
  go_wp2_with (first
    | (go_at_call 24; refine (setCell_rep (HN.out.pair.mem i hi) a0 a1 x0 x1 (by have := HT.out; omega)).mono ?_; rintro e w1 ⟨rfl, hd1⟩; obtain ⟨r1, b1⟩ := HN.out.mid hi hd1; obtain ⟨u0, u1, u2, u3, u4, u5, u6⟩ := box7 b1; dsimp only at u0 u1 u2 u3 u4 u5 u6; have D1 := Lib.hid hd1; have R1 := Lib.hid r1; clear hd1 r1 b1)
    | (go_at_call 48; refine (refSetCell_rep R1.out a0 a1 x0 x1 (by have := HT.out; omega)).mono ?_; rintro e w2 ⟨rfl, hd2⟩; have FIN := Lib.hid (HN.out.fin hi D1.out hd2 (by have := HT.out; have := Mm.setCell_tones (M i) at_ x; omega) (Mm.setCell_chosen _ _ _ (HN.out.pair.ch i hi))); clear hd2))
  go_ret
  exact FIN.out

set_option maxRecDepth 100000 in
set_option maxHeartbeats 2000000 in
theorem plays_begin {W : World} {q base k : Nat} {M : Nat → Mm} {b c : Nat → Nat} {S T : Nat → Nat → Prop} (h : PairAt W q base k M b c S T) (which at_ x y cc n : Int) (ho : (⟨5, which, at_, x, y, cc, n⟩ : Opv).Ok) (hk : k + 3 < 1000000000) :
    Calls Try.prog 34 #[.pointer (some ⟨q, 0, none⟩), .agg #[.int .i64 5, .int .i64 which, .int .u16 at_, .int .u16 x, .int .u16 y, .int .u16 cc, .int .i64 n]] W (PlayPost W q base k) := by
  have HD := Lib.hid (PlayHead.start h ⟨5, which, at_, x, y, cc, n⟩)
  obtain ⟨⟨a0, a1⟩, ⟨x0, x1⟩, ⟨y0, y1⟩, ⟨k0, k1⟩⟩ := ho
  dsimp only at a0 a1 x0 x1 y0 y1 k0 k1
  have SL : Hid (∀ i, i < 2 → (W.alloc (.cells #[.int .i64 5, .int .i64 which, .int .u16 at_, .int .u16 x, .int .u16 y, .int .u16 cc, .int .i64 n] 76)).cell? ⟨q, i, none⟩ = some (.pointer (some ⟨b i, 0, none⟩)) ∧ (W.alloc (.cells #[.int .i64 5, .int .i64 which, .int .u16 at_, .int .u16 x, .int .u16 y, .int .u16 cc, .int .i64 n] 76)).cell? ⟨q, 2 + i, none⟩ = some (.pointer (some ⟨c i, 0, none⟩))) := fun i hi => HD.out.pair.slots hi
  clear h
  obtain ⟨i, hi, hw⟩ : ∃ i : Nat, i < 2 ∧ (which.tmod 2 + 2) % 2 = (i : Int) := ⟨((which.tmod 2 + 2) % 2).toNat, by have := which_cases which; omega, by have := which_cases which; omega⟩
  have HW := Lib.hid hw
  have wl : -1 ≤ which.tmod 2 := by have := which_cases which; omega
  have wu : which.tmod 2 ≤ 1 := by have := which_cases which; omega
  clear hw
  go_enter Try.func34, Try.ntmps34
  go_upto_region 2 with (fail)
  rw [HW.out]
  have i0 : (0 : Int) ≤ (i : Int) := by omega
  have i2 : (i : Int) < 2 := by omega
  obtain ⟨s1, s2⟩ := SL.out i hi
  go_quiet (fail)
  have HN := Lib.hid (HD.out.next (Quiet.below ⟨nq, rfl⟩))
  have HT := Lib.hid (HD.out.pair.tones i hi)
  clear s1 s2
  go_wp2_with (first
    | (go_at_call 12; refine (begin_rep (HN.out.pair.mem i hi) (by omega) (by omega)).mono ?_; rintro e w1 ⟨rfl, hd1⟩; obtain ⟨r1, b1⟩ := HN.out.mid hi hd1; obtain ⟨u0, u1, u2, u3, u4, u5, u6⟩ := box7 b1; dsimp only at u0 u1 u2 u3 u4 u5 u6; have D1 := Lib.hid hd1; have R1 := Lib.hid r1; clear hd1 r1 b1)
    | (go_at_call 49; refine (refBegin_rep R1.out (by omega) (by omega)).mono ?_; rintro e w2 ⟨rfl, hd2⟩; have FIN := Lib.hid (HN.out.fin hi D1.out hd2 (by have := HT.out; simp [Mm.begin]) (HN.out.pair.ch i hi)); clear hd2))
  go_ret
  exact FIN.out

set_option maxRecDepth 100000 in
set_option maxHeartbeats 2000000 in
theorem plays_cycle {W : World} {q base k : Nat} {M : Nat → Mm} {b c : Nat → Nat} {S T : Nat → Nat → Prop} (h : PairAt W q base k M b c S T) (which at_ x y cc n : Int) (ho : (⟨6, which, at_, x, y, cc, n⟩ : Opv).Ok) (hk : k + 3 < 1000000000) :
    Calls Try.prog 34 #[.pointer (some ⟨q, 0, none⟩), .agg #[.int .i64 6, .int .i64 which, .int .u16 at_, .int .u16 x, .int .u16 y, .int .u16 cc, .int .i64 n]] W (PlayPost W q base k) := by
  have HD := Lib.hid (PlayHead.start h ⟨6, which, at_, x, y, cc, n⟩)
  obtain ⟨⟨a0, a1⟩, ⟨x0, x1⟩, ⟨y0, y1⟩, ⟨k0, k1⟩⟩ := ho
  dsimp only at a0 a1 x0 x1 y0 y1 k0 k1
  have SL : Hid (∀ i, i < 2 → (W.alloc (.cells #[.int .i64 6, .int .i64 which, .int .u16 at_, .int .u16 x, .int .u16 y, .int .u16 cc, .int .i64 n] 76)).cell? ⟨q, i, none⟩ = some (.pointer (some ⟨b i, 0, none⟩)) ∧ (W.alloc (.cells #[.int .i64 6, .int .i64 which, .int .u16 at_, .int .u16 x, .int .u16 y, .int .u16 cc, .int .i64 n] 76)).cell? ⟨q, 2 + i, none⟩ = some (.pointer (some ⟨c i, 0, none⟩))) := fun i hi => HD.out.pair.slots hi
  clear h
  obtain ⟨i, hi, hw⟩ : ∃ i : Nat, i < 2 ∧ (which.tmod 2 + 2) % 2 = (i : Int) := ⟨((which.tmod 2 + 2) % 2).toNat, by have := which_cases which; omega, by have := which_cases which; omega⟩
  have HW := Lib.hid hw
  have wl : -1 ≤ which.tmod 2 := by have := which_cases which; omega
  have wu : which.tmod 2 ≤ 1 := by have := which_cases which; omega
  clear hw
  go_enter Try.func34, Try.ntmps34
  go_upto_region 2 with (fail)
  rw [HW.out]
  have i0 : (0 : Int) ≤ (i : Int) := by omega
  have i2 : (i : Int) < 2 := by omega
  obtain ⟨s1, s2⟩ := SL.out i hi
  go_quiet (fail)
  have HN := Lib.hid (HD.out.next (Quiet.below ⟨nq, rfl⟩))
  have HT := Lib.hid (HD.out.pair.tones i hi)
  clear s1 s2
  go_wp2_with (first
    | (go_at_call 25; refine (at_rep (HN.out.pair.mem i hi)).mono ?_; rintro e w1 ⟨rfl, hd1⟩; obtain ⟨r1, b1⟩ := HN.out.mid hi hd1; obtain ⟨u0, u1, u2, u3, u4, u5, u6⟩ := box7 b1; dsimp only at u0 u1 u2 u3 u4 u5 u6; have D1 := Lib.hid hd1; have R1 := Lib.hid r1; clear hd1 r1 b1; obtain ⟨rl, rbx, rbv, rbr, rbs, rtv, RA⟩ := R1.out; obtain ⟨_, _, _, _, _, _, _, _, v8, _, vf⟩ := RA.cells; have vf8 := vf 8; clear vf RA; have FIN := Lib.hid (HN.out.fin hi D1.out (refCycle_rep (x := n) R1.out) (by have := HT.out; show (M i).tones.length ≤ _; omega) (HN.out.pair.ch i hi))))
  go_ret
  exact FIN.out

set_option maxRecDepth 100000 in
set_option maxHeartbeats 2000000 in
theorem plays_plot {W : World} {q base k : Nat} {M : Nat → Mm} {b c : Nat → Nat} {S T : Nat → Nat → Prop} (h : PairAt W q base k M b c S T) (which at_ x y cc n : Int) (ho : (⟨7, which, at_, x, y, cc, n⟩ : Opv).Ok) (hk : k + 3 < 1000000000) :
    Calls Try.prog 34 #[.pointer (some ⟨q, 0, none⟩), .agg #[.int .i64 7, .int .i64 which, .int .u16 at_, .int .u16 x, .int .u16 y, .int .u16 cc, .int .i64 n]] W (PlayPost W q base k) := by
  have HD := Lib.hid (PlayHead.start h ⟨7, which, at_, x, y, cc, n⟩)
  obtain ⟨⟨a0, a1⟩, ⟨x0, x1⟩, ⟨y0, y1⟩, ⟨k0, k1⟩⟩ := ho
  dsimp only at a0 a1 x0 x1 y0 y1 k0 k1
  have SL : Hid (∀ i, i < 2 → (W.alloc (.cells #[.int .i64 7, .int .i64 which, .int .u16 at_, .int .u16 x, .int .u16 y, .int .u16 cc, .int .i64 n] 76)).cell? ⟨q, i, none⟩ = some (.pointer (some ⟨b i, 0, none⟩)) ∧ (W.alloc (.cells #[.int .i64 7, .int .i64 which, .int .u16 at_, .int .u16 x, .int .u16 y, .int .u16 cc, .int .i64 n] 76)).cell? ⟨q, 2 + i, none⟩ = some (.pointer (some ⟨c i, 0, none⟩))) := fun i hi => HD.out.pair.slots hi
  clear h
  obtain ⟨i, hi, hw⟩ : ∃ i : Nat, i < 2 ∧ (which.tmod 2 + 2) % 2 = (i : Int) := ⟨((which.tmod 2 + 2) % 2).toNat, by have := which_cases which; omega, by have := which_cases which; omega⟩
  have HW := Lib.hid hw
  have wl : -1 ≤ which.tmod 2 := by have := which_cases which; omega
  have wu : which.tmod 2 ≤ 1 := by have := which_cases which; omega
  clear hw
  go_enter Try.func34, Try.ntmps34
  go_upto_region 2 with (fail)
  rw [HW.out]
  have i0 : (0 : Int) ≤ (i : Int) := by omega
  have i2 : (i : Int) < 2 := by omega
  obtain ⟨s1, s2⟩ := SL.out i hi
  go_quiet (fail)
  have HN := Lib.hid (HD.out.next (Quiet.below ⟨nq, rfl⟩))
  have HT := Lib.hid (HD.out.pair.tones i hi)
  clear s1 s2
  go_wp2_with (first
    | (go_at_call 26; refine (plot_rep (HN.out.pair.mem i hi) x0 y0 k0 k1 (by have := HT.out; omega)).mono ?_; rintro e w1 ⟨rfl, hd1⟩; obtain ⟨r1, b1⟩ := HN.out.mid hi hd1; obtain ⟨u0, u1, u2, u3, u4, u5, u6⟩ := box7 b1; dsimp only at u0 u1 u2 u3 u4 u5 u6; have D1 := Lib.hid hd1; have R1 := Lib.hid r1; clear hd1 r1 b1)
    | (go_at_call 50; refine (refPlot_rep R1.out x0 y0 k0 k1 (by have := HT.out; omega)).mono ?_; rintro e w2 ⟨rfl, hd2⟩; have FIN := Lib.hid (HN.out.fin hi D1.out hd2 (by have := HT.out; have := Mm.plot_tones (M i) x y cc; omega) (Mm.plot_chosen _ _ _ _ (HN.out.pair.ch i hi))); clear hd2))
  go_ret
  exact FIN.out

set_option maxRecDepth 100000 in
set_option maxHeartbeats 2000000 in
theorem plays_play {W : World} {q base k : Nat} {M : Nat → Mm} {b c : Nat → Nat} {S T : Nat → Nat → Prop} (h : PairAt W q base k M b c S T) (which at_ x y cc n : Int) (ho : (⟨8, which, at_, x, y, cc, n⟩ : Opv).Ok) (hk : k + 3 < 1000000000) :
    Calls Try.prog 34 #[.pointer (some ⟨q, 0, none⟩), .agg #[.int .i64 8, .int .i64 which, .int .u16 at_, .int .u16 x, .int .u16 y, .int .u16 cc, .int .i64 n]] W (PlayPost W q base k) := by
  have HD := Lib.hid (PlayHead.start h ⟨8, which, at_, x, y, cc, n⟩)
  obtain ⟨⟨a0, a1⟩, ⟨x0, x1⟩, ⟨y0, y1⟩, ⟨k0, k1⟩⟩ := ho
  dsimp only at a0 a1 x0 x1 y0 y1 k0 k1
  have SL : Hid (∀ i, i < 2 → (W.alloc (.cells #[.int .i64 8, .int .i64 which, .int .u16 at_, .int .u16 x, .int .u16 y, .int .u16 cc, .int .i64 n] 76)).cell? ⟨q, i, none⟩ = some (.pointer (some ⟨b i, 0, none⟩)) ∧ (W.alloc (.cells #[.int .i64 8, .int .i64 which, .int .u16 at_, .int .u16 x, .int .u16 y, .int .u16 cc, .int .i64 n] 76)).cell? ⟨q, 2 + i, none⟩ = some (.pointer (some ⟨c i, 0, none⟩))) := fun i hi => HD.out.pair.slots hi
  clear h
  obtain ⟨i, hi, hw⟩ : ∃ i : Nat, i < 2 ∧ (which.tmod 2 + 2) % 2 = (i : Int) := ⟨((which.tmod 2 + 2) % 2).toNat, by have := which_cases which; omega, by have := which_cases which; omega⟩
  have HW := Lib.hid hw
  have wl : -1 ≤ which.tmod 2 := by have := which_cases which; omega
  have wu : which.tmod 2 ≤ 1 := by have := which_cases which; omega
  clear hw
  go_enter Try.func34, Try.ntmps34
  go_upto_region 2 with (fail)
  rw [HW.out]
  have i0 : (0 : Int) ≤ (i : Int) := by omega
  have i2 : (i : Int) < 2 := by omega
  obtain ⟨s1, s2⟩ := SL.out i hi
  go_quiet (fail)
  have HN := Lib.hid (HD.out.next (Quiet.below ⟨nq, rfl⟩))
  have HT := Lib.hid (HD.out.pair.tones i hi)
  clear s1 s2
  go_wp2_with (first
    | (go_at_call 27; refine (play_rep (HN.out.pair.mem i hi) x0 x1 (by omega) (by omega) (by have := HT.out; omega)).mono ?_; rintro e w1 ⟨rfl, hd1⟩; obtain ⟨r1, b1⟩ := HN.out.mid hi hd1; obtain ⟨u0, u1, u2, u3, u4, u5, u6⟩ := box7 b1; dsimp only at u0 u1 u2 u3 u4 u5 u6; have D1 := Lib.hid hd1; have R1 := Lib.hid r1; clear hd1 r1 b1)
    | (go_at_call 51; refine (refPlay_rep R1.out x0 x1 (by omega) (by omega) (by have := HT.out; omega)).mono ?_; rintro e w2 ⟨rfl, hd2⟩; have FIN := Lib.hid (HN.out.fin hi D1.out hd2 (by have := HT.out; have := Mm.play_tones (M i) x (y % 256); omega) (Mm.play_chosen _ _ _ (HN.out.pair.ch i hi))); clear hd2))
  go_ret
  exact FIN.out

set_option maxRecDepth 100000 in
set_option maxHeartbeats 2000000 in
theorem plays_choose {W : World} {q base k : Nat} {M : Nat → Mm} {b c : Nat → Nat} {S T : Nat → Nat → Prop} (h : PairAt W q base k M b c S T) (which at_ x y cc n : Int) (ho : (⟨9, which, at_, x, y, cc, n⟩ : Opv).Ok) (hk : k + 3 < 1000000000) :
    Calls Try.prog 34 #[.pointer (some ⟨q, 0, none⟩), .agg #[.int .i64 9, .int .i64 which, .int .u16 at_, .int .u16 x, .int .u16 y, .int .u16 cc, .int .i64 n]] W (PlayPost W q base k) := by
  have HD := Lib.hid (PlayHead.start h ⟨9, which, at_, x, y, cc, n⟩)
  obtain ⟨⟨a0, a1⟩, ⟨x0, x1⟩, ⟨y0, y1⟩, ⟨k0, k1⟩⟩ := ho
  dsimp only at a0 a1 x0 x1 y0 y1 k0 k1
  have SL : Hid (∀ i, i < 2 → (W.alloc (.cells #[.int .i64 9, .int .i64 which, .int .u16 at_, .int .u16 x, .int .u16 y, .int .u16 cc, .int .i64 n] 76)).cell? ⟨q, i, none⟩ = some (.pointer (some ⟨b i, 0, none⟩)) ∧ (W.alloc (.cells #[.int .i64 9, .int .i64 which, .int .u16 at_, .int .u16 x, .int .u16 y, .int .u16 cc, .int .i64 n] 76)).cell? ⟨q, 2 + i, none⟩ = some (.pointer (some ⟨c i, 0, none⟩))) := fun i hi => HD.out.pair.slots hi
  clear h
  obtain ⟨i, hi, hw⟩ : ∃ i : Nat, i < 2 ∧ (which.tmod 2 + 2) % 2 = (i : Int) := ⟨((which.tmod 2 + 2) % 2).toNat, by have := which_cases which; omega, by have := which_cases which; omega⟩
  have HW := Lib.hid hw
  have wl : -1 ≤ which.tmod 2 := by have := which_cases which; omega
  have wu : which.tmod 2 ≤ 1 := by have := which_cases which; omega
  clear hw
  go_enter Try.func34, Try.ntmps34
  go_upto_region 2 with (fail)
  rw [HW.out]
  have i0 : (0 : Int) ≤ (i : Int) := by omega
  have i2 : (i : Int) < 2 := by omega
  obtain ⟨s1, s2⟩ := SL.out i hi
  go_quiet (fail)
  have HN := Lib.hid (HD.out.next (Quiet.below ⟨nq, rfl⟩))
  have HT := Lib.hid (HD.out.pair.tones i hi)
  clear s1 s2
  go_wp2_with (first
    | (go_at_call 11; refine (choose_rep (HN.out.pair.mem i hi) x0 x1 (by have := HT.out; omega)).mono ?_; rintro e w1 ⟨rfl, hd1⟩; obtain ⟨r1, b1⟩ := HN.out.mid hi hd1; obtain ⟨u0, u1, u2, u3, u4, u5, u6⟩ := box7 b1; dsimp only at u0 u1 u2 u3 u4 u5 u6; have D1 := Lib.hid hd1; have R1 := Lib.hid r1; clear hd1 r1 b1)
    | (go_at_call 52; refine (refChoose_rep R1.out x0 x1 (by have := HT.out; omega)).mono ?_; rintro e w2 ⟨rfl, hd2⟩; have FIN := Lib.hid (HN.out.fin hi D1.out hd2 (by have := HT.out; have := Mm.store_tones (M i) 65280 (x % 256); omega) (Mm.store_chosen _ _ _ (HN.out.pair.ch i hi))); clear hd2))
  go_ret
  exact FIN.out

set_option maxRecDepth 100000 in
set_option maxHeartbeats 2000000 in
theorem plays_else {W : World} {q base k : Nat} {M : Nat → Mm} {b c : Nat → Nat} {S T : Nat → Nat → Prop} (h : PairAt W q base k M b c S T) (kind : Int) (which at_ x y cc n : Int) (ho : (⟨kind, which, at_, x, y, cc, n⟩ : Opv).Ok) (hk : k + 3 < 1000000000) (hne : ∀ j : Int, 1 ≤ j → j ≤ 14 → kind ≠ j) :
    Calls Try.prog 34 #[.pointer (some ⟨q, 0, none⟩), .agg #[.int .i64 kind, .int .i64 which, .int .u16 at_, .int .u16 x, .int .u16 y, .int .u16 cc, .int .i64 n]] W (PlayPost W q base k) := by
  have HD := Lib.hid (PlayHead.start h ⟨kind, which, at_, x, y, cc, n⟩)
  obtain ⟨⟨a0, a1⟩, ⟨x0, x1⟩, ⟨y0, y1⟩, ⟨k0, k1⟩⟩ := ho
  dsimp only at a0 a1 x0 x1 y0 y1 k0 k1
  have SL : Hid (∀ i, i < 2 → (W.alloc (.cells #[.int .i64 kind, .int .i64 which, .int .u16 at_, .int .u16 x, .int .u16 y, .int .u16 cc, .int .i64 n] 76)).cell? ⟨q, i, none⟩ = some (.pointer (some ⟨b i, 0, none⟩)) ∧ (W.alloc (.cells #[.int .i64 kind, .int .i64 which, .int .u16 at_, .int .u16 x, .int .u16 y, .int .u16 cc, .int .i64 n] 76)).cell? ⟨q, 2 + i, none⟩ = some (.pointer (some ⟨c i, 0, none⟩))) := fun i hi => HD.out.pair.slots hi
  clear h
  obtain ⟨i, hi, hw⟩ : ∃ i : Nat, i < 2 ∧ (which.tmod 2 + 2) % 2 = (i : Int) := ⟨((which.tmod 2 + 2) % 2).toNat, by have := which_cases which; omega, by have := which_cases which; omega⟩
  have HW := Lib.hid hw
  have wl : -1 ≤ which.tmod 2 := by have := which_cases which; omega
  have wu : which.tmod 2 ≤ 1 := by have := which_cases which; omega
  clear hw
  have n1 : (kind == 1) = false := beq_false_of_ne (hne 1 (by omega) (by omega))
  have n2 : (kind == 2) = false := beq_false_of_ne (hne 2 (by omega) (by omega))
  have n3 : (kind == 3) = false := beq_false_of_ne (hne 3 (by omega) (by omega))
  have n4 : (kind == 4) = false := beq_false_of_ne (hne 4 (by omega) (by omega))
  have n5 : (kind == 5) = false := beq_false_of_ne (hne 5 (by omega) (by omega))
  have n6 : (kind == 6) = false := beq_false_of_ne (hne 6 (by omega) (by omega))
  have n7 : (kind == 7) = false := beq_false_of_ne (hne 7 (by omega) (by omega))
  have n8 : (kind == 8) = false := beq_false_of_ne (hne 8 (by omega) (by omega))
  have n9 : (kind == 9) = false := beq_false_of_ne (hne 9 (by omega) (by omega))
  have n10 : (kind == 10) = false := beq_false_of_ne (hne 10 (by omega) (by omega))
  have n11 : (kind == 11) = false := beq_false_of_ne (hne 11 (by omega) (by omega))
  have n12 : (kind == 12) = false := beq_false_of_ne (hne 12 (by omega) (by omega))
  have n13 : (kind == 13) = false := beq_false_of_ne (hne 13 (by omega) (by omega))
  have n14 : (kind == 14) = false := beq_false_of_ne (hne 14 (by omega) (by omega))
  clear hne
  go_enter Try.func34, Try.ntmps34
  go_upto_region 2 with (fail)
  rw [HW.out]
  have i0 : (0 : Int) ≤ (i : Int) := by omega
  have i2 : (i : Int) < 2 := by omega
  obtain ⟨s1, s2⟩ := SL.out i hi
  go_quiet (fail)
  have HN := Lib.hid (HD.out.next (Quiet.below ⟨nq, rfl⟩))
  have HT := Lib.hid (HD.out.pair.tones i hi)
  clear s1 s2
  have FIN := Lib.hid (HN.out.same (Below.refl _ _))
  go_wp2_with (fail)
  go_ret
  exact FIN.out
end Go.Proofs.Ytabeljpnmmfpgaa
