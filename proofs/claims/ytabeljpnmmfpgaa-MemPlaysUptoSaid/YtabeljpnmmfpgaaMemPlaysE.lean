/-
  A step of a script that copies a memory.
-/
import Derived.Test.YtabeljpnmmfpgaaMemPut
import Derived.Test.YtabeljpnmmfpgaaMemImg3
namespace Go.Proofs.Ytabeljpnmmfpgaa
open Go.RowKit Go.MapKept
set_option linter.unusedVariables false
set_option linter.unusedSimpArgs false

set_option maxRecDepth 100000 in
set_option maxHeartbeats 2000000 in
theorem plays_copy {W : World} {q base k : Nat} {M : Nat → Mm} {b c : Nat → Nat} {S T : Nat → Nat → Prop} (h : PairAt W q base k M b c S T) (which at_ x y cc n : Int) (ho : (⟨13, which, at_, x, y, cc, n⟩ : Opv).Ok) (hk : k + 3 < 1000000000) :
    Calls Try.prog 34 #[.pointer (some ⟨q, 0, none⟩), .agg #[.int .i64 13, .int .i64 which, .int .u16 at_, .int .u16 x, .int .u16 y, .int .u16 cc, .int .i64 n]] W (PlayPost W q base k) := by
  have HD := Lib.hid (PlayHead.start h ⟨13, which, at_, x, y, cc, n⟩)
  obtain ⟨⟨a0, a1⟩, ⟨x0, x1⟩, ⟨y0, y1⟩, ⟨k0, k1⟩⟩ := ho
  dsimp only at a0 a1 x0 x1 y0 y1 k0 k1
  have SL : Hid (∀ i, i < 2 → (W.alloc (.cells #[.int .i64 13, .int .i64 which, .int .u16 at_, .int .u16 x, .int .u16 y, .int .u16 cc, .int .i64 n] 76)).cell? ⟨q, i, none⟩ = some (.pointer (some ⟨b i, 0, none⟩)) ∧ (W.alloc (.cells #[.int .i64 13, .int .i64 which, .int .u16 at_, .int .u16 x, .int .u16 y, .int .u16 cc, .int .i64 n] 76)).cell? ⟨q, 2 + i, none⟩ = some (.pointer (some ⟨c i, 0, none⟩))) := fun i hi => HD.out.pair.slots hi
  clear h
  obtain ⟨i, hi, hw⟩ : ∃ i : Nat, i < 2 ∧ (which.tmod 2 + 2) % 2 = (i : Int) := ⟨((which.tmod 2 + 2) % 2).toNat, by have := which_cases which; omega, by have := which_cases which; omega⟩
  have HW := Lib.hid hw
  have wl : -1 ≤ which.tmod 2 := by have := which_cases which; omega
  have wu : which.tmod 2 ≤ 1 := by have := which_cases which; omega
  clear hw
  go_enter Try.func34, Try.ntmps34
  go_upto_region 2 with (fail)
  rw [HW.out]
  have i0 : (0 : Int) ≤ (i : Int) := by omega
  have i2 : (i : Int) < 2 := by omega
  obtain ⟨s1, s2⟩ := SL.out i hi
  go_quiet (fail)
  have HN := Lib.hid (HD.out.next (Quiet.below ⟨nq, rfl⟩))
  have HT := Lib.hid (HD.out.pair.tones i hi)
  clear s1 s2
  clear HD SL
  replace HN : Hid (PlayHead W ((W.alloc (.cells #[.int .i64 13, .int .i64 which, .int .u16 at_, .int .u16 x, .int .u16 y, .int .u16 cc, .int .i64 n] 76)).drewN nq) q base k M b c S T ⟨13, which, at_, x, y, cc, n⟩) := HN
  generalize (W.alloc (.cells #[.int .i64 13, .int .i64 which, .int .u16 at_, .int .u16 x, .int .u16 y, .int .u16 cc, .int .i64 n] 76)).drewN nq = wb at HN ⊢
  obtain ⟨t0, t1, t2, t3, t4, t5, t6⟩ := box7 HN.out.box
  dsimp only at t0 t1 t2 t3 t4 t5 t6
  clear t1 t2 t3 t4 t5 t6
  obtain ⟨l, hn⟩ := (HN.out.pair.ref i hi).nums
  have CM : Hid (∀ W', PlayHead W W' q base k M b c S T ⟨13, which, at_, x, y, cc, n⟩ → Calls Try.prog 30 #[.pointer (some ⟨b i, 0, none⟩)] W' fun e w1 => ∃ b', e = .returned (.pointer (some ⟨b', 0, none⟩)) ∧ Hid (MemNew W' w1 b' (M i)) ∧ Hid (Below W'.heap.size W' w1)) := fun W' h =>
    (memCopy_rep (h.pair.mem i hi) hn.range (by have := HT.out; omega)).mono fun e w1 ⟨e1, hb, S', s1, s2⟩ => ⟨_, e1, ⟨S', s1, fun x hx => ⟨s2 x hx, s1.lt x hx⟩⟩, hb⟩
  have CR : Hid (∀ W', RefRep W' (c i) (M i) (T i) → Calls Try.prog 33 #[.pointer (some ⟨c i, 0, none⟩)] W' fun e w1 => ∃ c', e = .returned (.pointer (some ⟨c', 0, none⟩)) ∧ Hid (RefNew W' w1 c' (M i)) ∧ Hid (Below W'.heap.size W' w1)) := fun W' h =>
    (refCopy_rep h (by have := HT.out; omega)).mono fun e w1 ⟨e1, hb, S', s1, s2⟩ => ⟨_, e1, ⟨S', s1, fun x hx => ⟨s2 x hx, s1.lt x hx⟩⟩, hb⟩
  clear hn l
  have hi01 : i = 0 ∨ i = 1 := by omega
  rcases hi01 with rfl | rfl
  · obtain ⟨p0, p1, p2, p3, pf⟩ := pair_cells HN.out.pair.obj
    have pf0 := pf 1
    have pf2 := pf (2 + 1)
    unfold ptr at p0 p1 p2 p3
    have e0 : ((0 : Nat) : Int) = 0 := rfl
    rw [e0]
    have wr : IntKind.i64.wrap 1 = 1 := by decide
    clear pf
    have N1 : Hid (PlayHead W wb.drew q base k M b c S T ⟨13, which, at_, x, y, cc, n⟩) := HN.out.next (Quiet.below ⟨1, rfl⟩)
    go_wp2_with (fail)
    go_region_law (first
      | (go_simp; go_at_call 30; refine Calls.mono (CM.out _ N1.out) ?_; rintro e w1 ⟨b1, rfl, M1, B1⟩; dsimp only; obtain ⟨r0, r1, r2, r3, rf⟩ := pair_cells (N1.out.next B1.out).pair.obj; have rf0 := rf 1; clear rf; unfold ptr at r0 r1 r2 r3))
    all_goals
      have M1' := M1; have B1' := B1
      obtain ⟨ho, hr⟩ := HN.out.half (j := 1) (by omega) (b' := b1) ⟨1, rfl⟩ B1.out
      have R1 : Hid (RefRep (w1.setCell ⟨q, 1, none⟩ (.pointer (some ⟨b1, 0, none⟩))).drew (c 0) (M 0) (T 0)) := (hr 0 (by omega)).stays (fun _ _ => rfl)
      clear ho hr
      go_wp2_with (fail)
      go_region_law (first
        | (go_simp; go_at_call 33; refine Calls.mono (CR.out _ R1.out) ?_; rintro e w2 ⟨c1, rfl, M2, B2⟩; dsimp only; obtain ⟨o2, FIN⟩ := HN.out.copyFin (j := 1) (by omega) ⟨1, rfl⟩ M1.out B1.out ⟨1, rfl⟩ M2.out B2.out (by have := HT.out; omega) (HN.out.pair.ch 0 (by omega)); obtain ⟨v0, v1, v2, v3, vf⟩ := pair_cells o2; have vf0 := vf (2 + 1); clear vf o2; simp only [ptr] at v0 v1 v2 v3))
      all_goals
        go_wp2_with (fail)
        go_ret
        exact FIN.out
  · obtain ⟨p0, p1, p2, p3, pf⟩ := pair_cells HN.out.pair.obj
    have pf0 := pf 0
    have pf2 := pf (2 + 0)
    unfold ptr at p0 p1 p2 p3
    have e0 : ((1 : Nat) : Int) = 1 := rfl
    rw [e0]
    have wr : IntKind.i64.wrap 0 = 0 := by decide
    clear pf
    have N1 : Hid (PlayHead W wb.drew q base k M b c S T ⟨13, which, at_, x, y, cc, n⟩) := HN.out.next (Quiet.below ⟨1, rfl⟩)
    go_wp2_with (fail)
    go_region_law (first
      | (go_simp; go_at_call 30; refine Calls.mono (CM.out _ N1.out) ?_; rintro e w1 ⟨b1, rfl, M1, B1⟩; dsimp only; obtain ⟨r0, r1, r2, r3, rf⟩ := pair_cells (N1.out.next B1.out).pair.obj; have rf0 := rf 0; clear rf; unfold ptr at r0 r1 r2 r3))
    all_goals
      have M1' := M1; have B1' := B1
      obtain ⟨ho, hr⟩ := HN.out.half (j := 0) (by omega) (b' := b1) ⟨1, rfl⟩ B1.out
      have R1 : Hid (RefRep (w1.setCell ⟨q, 0, none⟩ (.pointer (some ⟨b1, 0, none⟩))).drew (c 1) (M 1) (T 1)) := (hr 1 (by omega)).stays (fun _ _ => rfl)
      clear ho hr
      go_wp2_with (fail)
      go_region_law (first
        | (go_simp; go_at_call 33; refine Calls.mono (CR.out _ R1.out) ?_; rintro e w2 ⟨c1, rfl, M2, B2⟩; dsimp only; obtain ⟨o2, FIN⟩ := HN.out.copyFin (j := 0) (by omega) ⟨1, rfl⟩ M1.out B1.out ⟨1, rfl⟩ M2.out B2.out (by have := HT.out; omega) (HN.out.pair.ch 1 (by omega)); obtain ⟨v0, v1, v2, v3, vf⟩ := pair_cells o2; have vf0 := vf (2 + 0); clear vf o2; simp only [ptr] at v0 v1 v2 v3))
      all_goals
        go_wp2_with (fail)
        go_ret
        exact FIN.out
end Go.Proofs.Ytabeljpnmmfpgaa
