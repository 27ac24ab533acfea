/-
  A step of a script that reads a byte or a cell.
-/
import Derived.Test.YtabeljpnmmfpgaaMemPlaysA
import Derived.Test.YtabeljpnmmfpgaaRefLoad
import Derived.Deep.RegionHeld3
namespace Go.Proofs.Ytabeljpnmmfpgaa
open Go.RowKit Go.MapKept
set_option linter.unusedVariables false
set_option linter.unusedSimpArgs false

set_option maxRecDepth 100000 in
set_option maxHeartbeats 2000000 in
theorem plays_load {W : World} {q base k : Nat} {M : Nat → Mm} {b c : Nat → Nat} {S T : Nat → Nat → Prop} (h : PairAt W q base k M b c S T) (which at_ x y cc n : Int) (ho : (⟨1, which, at_, x, y, cc, n⟩ : Opv).Ok) (hk : k + 3 < 1000000000) :
    Calls Try.prog 34 #[.pointer (some ⟨q, 0, none⟩), .agg #[.int .i64 1, .int .i64 which, .int .u16 at_, .int .u16 x, .int .u16 y, .int .u16 cc, .int .i64 n]] W (PlayPost W q base k) := by
  have HD := Lib.hid (PlayHead.start h ⟨1, which, at_, x, y, cc, n⟩)
  obtain ⟨⟨a0, a1⟩, ⟨x0, x1⟩, ⟨y0, y1⟩, ⟨k0, k1⟩⟩ := ho
  dsimp only at a0 a1 x0 x1 y0 y1 k0 k1
  have SL : Hid (∀ i, i < 2 → (W.alloc (.cells #[.int .i64 1, .int .i64 which, .int .u16 at_, .int .u16 x, .int .u16 y, .int .u16 cc, .int .i64 n] 76)).cell? ⟨q, i, none⟩ = some (.pointer (some ⟨b i, 0, none⟩)) ∧ (W.alloc (.cells #[.int .i64 1, .int .i64 which, .int .u16 at_, .int .u16 x, .int .u16 y, .int .u16 cc, .int .i64 n] 76)).cell? ⟨q, 2 + i, none⟩ = some (.pointer (some ⟨c i, 0, none⟩))) := fun i hi => HD.out.pair.slots hi
  clear h
  obtain ⟨i, hi, hw⟩ : ∃ i : Nat, i < 2 ∧ (which.tmod 2 + 2) % 2 = (i : Int) := ⟨((which.tmod 2 + 2) % 2).toNat, by have := which_cases which; omega, by have := which_cases which; omega⟩
  have HW := Lib.hid hw
  have wl : -1 ≤ which.tmod 2 := by have := which_cases which; omega
  have wu : which.tmod 2 ≤ 1 := by have := which_cases which; omega
  clear hw
  go_enter Try.func34, Try.ntmps34
  go_upto_region 2 with (fail)
  rw [HW.out]
  have i0 : (0 : Int) ≤ (i : Int) := by omega
  have i2 : (i : Int) < 2 := by omega
  obtain ⟨s1, s2⟩ := SL.out i hi
  go_quiet (fail)
  have HN := Lib.hid (HD.out.next (Quiet.below ⟨nq, rfl⟩))
  have HT := Lib.hid (HD.out.pair.tones i hi)
  clear s1 s2
  have HN1 := HD.out.next (Quiet.below ⟨nq + 1, rfl⟩)
  have HN2 : Hid (PlayHead W ((W.alloc (.cells #[.int .i64 1, .int .i64 which, .int .u16 at_, .int .u16 x, .int .u16 y, .int .u16 cc, .int .i64 n] 76)).drewN (nq + 1)) q base k M b c S T ⟨1, which, at_, x, y, cc, n⟩) := HN1
  have T2 : Hid (((W.alloc (.cells #[.int .i64 1, .int .i64 which, .int .u16 at_, .int .u16 x, .int .u16 y, .int .u16 cc, .int .i64 n] 76)).drewN nq).drew.cell? ⟨W.heap.size, 2, none⟩ = some (.int .u16 at_)) := (box7 HN2.out.box).2.2.1
  clear HN1
  have CM : Hid (∀ W', PlayHead W W' q base k M b c S T ⟨1, which, at_, x, y, cc, n⟩ → Calls Try.prog 15 #[.pointer (some ⟨b i, 0, none⟩), .int .u16 at_] W' fun e w' => e = .returned (.int .u8 ((M i).load at_)) ∧ Hid (PlayHead W w' q base k M b c S T ⟨1, which, at_, x, y, cc, n⟩) ∧ Hid (w'.cell? ⟨W.heap.size, 2, none⟩ = some (.int .u16 at_))) := fun W' h =>
    (load_rep (h.pair.mem i hi) a0 a1).mono fun e w' ⟨e1, hq⟩ => ⟨e1, h.next hq.below, (box7 (h.next hq.below).box).2.2.1⟩
  have CR : Hid (∀ W', PlayHead W W' q base k M b c S T ⟨1, which, at_, x, y, cc, n⟩ → Calls Try.prog 45 #[.pointer (some ⟨c i, 0, none⟩), .int .u16 at_] W' fun e w' => e = .returned (.int .u8 ((M i).load at_)) ∧ Hid (PlayHead W w' q base k M b c S T ⟨1, which, at_, x, y, cc, n⟩) ∧ Hid (w'.cell? ⟨W.heap.size, 2, none⟩ = some (.int .u16 at_))) := fun W' h =>
    (refLoad_rep (h.pair.ref i hi) a0 a1).mono fun e w' ⟨e1, hb⟩ => ⟨e1, h.next hb, (box7 (h.next hb).box).2.2.1⟩
  go_wp2_with (fail)
  go_region_held3 (fun w' => w'.cell? ⟨W.heap.size, 2, none⟩ = some (.int .u16 at_))
    (first | with_reducible exact T2.out | with_reducible exact F1.out | with_reducible exact F2.out | fail)
    (first
      | (go_at_call 15; refine Calls.mono (CM.out _ ?_) ?_; (first | exact HN2.out | exact NB.out); rintro e w1 ⟨rfl, NA, F1⟩)
      | (go_at_call 45; refine Calls.mono (CR.out _ ?_) ?_; (first | exact HN2.out | exact NA.out); rintro e w2 ⟨rfl, NB, F2⟩))
  all_goals
    have FA := Lib.hid (NA.out.same (Below.refl _ _))
    have FB := Lib.hid (NB.out.same (Below.refl _ _))
    clear NA NB
    go_wp2_with (fail)
    go_ret
    first | exact FA.out | exact FB.out

set_option maxRecDepth 100000 in
set_option maxHeartbeats 2000000 in
theorem plays_cell {W : World} {q base k : Nat} {M : Nat → Mm} {b c : Nat → Nat} {S T : Nat → Nat → Prop} (h : PairAt W q base k M b c S T) (which at_ x y cc n : Int) (ho : (⟨2, which, at_, x, y, cc, n⟩ : Opv).Ok) (hk : k + 3 < 1000000000) :
    Calls Try.prog 34 #[.pointer (some ⟨q, 0, none⟩), .agg #[.int .i64 2, .int .i64 which, .int .u16 at_, .int .u16 x, .int .u16 y, .int .u16 cc, .int .i64 n]] W (PlayPost W q base k) := by
  have HD := Lib.hid (PlayHead.start h ⟨2, which, at_, x, y, cc, n⟩)
  obtain ⟨⟨a0, a1⟩, ⟨x0, x1⟩, ⟨y0, y1⟩, ⟨k0, k1⟩⟩ := ho
  dsimp only at a0 a1 x0 x1 y0 y1 k0 k1
  have SL : Hid (∀ i, i < 2 → (W.alloc (.cells #[.int .i64 2, .int .i64 which, .int .u16 at_, .int .u16 x, .int .u16 y, .int .u16 cc, .int .i64 n] 76)).cell? ⟨q, i, none⟩ = some (.pointer (some ⟨b i, 0, none⟩)) ∧ (W.alloc (.cells #[.int .i64 2, .int .i64 which, .int .u16 at_, .int .u16 x, .int .u16 y, .int .u16 cc, .int .i64 n] 76)).cell? ⟨q, 2 + i, none⟩ = some (.pointer (some ⟨c i, 0, none⟩))) := fun i hi => HD.out.pair.slots hi
  clear h
  obtain ⟨i, hi, hw⟩ : ∃ i : Nat, i < 2 ∧ (which.tmod 2 + 2) % 2 = (i : Int) := ⟨((which.tmod 2 + 2) % 2).toNat, by have := which_cases which; omega, by have := which_cases which; omega⟩
  have HW := Lib.hid hw
  have wl : -1 ≤ which.tmod 2 := by have := which_cases which; omega
  have wu : which.tmod 2 ≤ 1 := by have := which_cases which; omega
  clear hw
  go_enter Try.func34, Try.ntmps34
  go_upto_region 2 with (fail)
  rw [HW.out]
  have i0 : (0 : Int) ≤ (i : Int) := by omega
  have i2 : (i : Int) < 2 := by omega
  obtain ⟨s1, s2⟩ := SL.out i hi
  go_quiet (fail)
  have HN := Lib.hid (HD.out.next (Quiet.below ⟨nq, rfl⟩))
  have HT := Lib.hid (HD.out.pair.tones i hi)
  clear s1 s2
  have HN1 := HD.out.next (Quiet.below ⟨nq + 1, rfl⟩)
  have HN2 : Hid (PlayHead W ((W.alloc (.cells #[.int .i64 2, .int .i64 which, .int .u16 at_, .int .u16 x, .int .u16 y, .int .u16 cc, .int .i64 n] 76)).drewN (nq + 1)) q base k M b c S T ⟨2, which, at_, x, y, cc, n⟩) := HN1
  have T2 : Hid (((W.alloc (.cells #[.int .i64 2, .int .i64 which, .int .u16 at_, .int .u16 x, .int .u16 y, .int .u16 cc, .int .i64 n] 76)).drewN nq).drew.cell? ⟨W.heap.size, 2, none⟩ = some (.int .u16 at_)) := (box7 HN2.out.box).2.2.1
  clear HN1
  have CM : Hid (∀ W', PlayHead W W' q base k M b c S T ⟨2, which, at_, x, y, cc, n⟩ → Calls Try.prog 28 #[.pointer (some ⟨b i, 0, none⟩), .int .u16 at_] W' fun e w' => e = .returned (.int .u16 ((M i).cellAt at_)) ∧ Hid (PlayHead W w' q base k M b c S T ⟨2, which, at_, x, y, cc, n⟩) ∧ Hid (w'.cell? ⟨W.heap.size, 2, none⟩ = some (.int .u16 at_))) := fun W' h =>
    (cell_rep (h.pair.mem i hi) a0 a1).mono fun e w' ⟨e1, hq⟩ => ⟨e1, h.next hq.below, (box7 (h.next hq.below).box).2.2.1⟩
  have CR : Hid (∀ W', PlayHead W W' q base k M b c S T ⟨2, which, at_, x, y, cc, n⟩ → Calls Try.prog 46 #[.pointer (some ⟨c i, 0, none⟩), .int .u16 at_] W' fun e w' => e = .returned (.int .u16 ((M i).cellAt at_)) ∧ Hid (PlayHead W w' q base k M b c S T ⟨2, which, at_, x, y, cc, n⟩) ∧ Hid (w'.cell? ⟨W.heap.size, 2, none⟩ = some (.int .u16 at_))) := fun W' h =>
    (refCell_rep (h.pair.ref i hi) a0 a1).mono fun e w' ⟨e1, hb⟩ => ⟨e1, h.next hb, (box7 (h.next hb).box).2.2.1⟩
  go_wp2_with (fail)
  go_region_held3 (fun w' => w'.cell? ⟨W.heap.size, 2, none⟩ = some (.int .u16 at_))
    (first | with_reducible exact T2.out | with_reducible exact F1.out | with_reducible exact F2.out | fail)
    (first
      | (go_at_call 28; refine Calls.mono (CM.out _ ?_) ?_; (first | exact HN2.out | exact NB.out); rintro e w1 ⟨rfl, NA, F1⟩)
      | (go_at_call 46; refine Calls.mono (CR.out _ ?_) ?_; (first | exact HN2.out | exact NA.out); rintro e w2 ⟨rfl, NB, F2⟩))
  all_goals
    have FA := Lib.hid (NA.out.same (Below.refl _ _))
    have FB := Lib.hid (NB.out.same (Below.refl _ _))
    clear NA NB
    go_wp2_with (fail)
    go_ret
    first | exact FA.out | exact FB.out
end Go.Proofs.Ytabeljpnmmfpgaa
