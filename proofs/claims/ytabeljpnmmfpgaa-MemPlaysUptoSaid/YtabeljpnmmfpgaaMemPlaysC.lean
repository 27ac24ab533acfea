/-
  A step of a script that asks for the tones or for the screen.
-/
import Derived.Test.YtabeljpnmmfpgaaMemPlaysA
import Derived.Test.YtabeljpnmmfpgaaMemTones
import Derived.Test.YtabeljpnmmfpgaaRefSame
import Derived.Test.YtabeljpnmmfpgaaRefLoad
import Derived.Test.YtabeljpnmmfpgaaMemScreen
import Derived.Test.YtabeljpnmmfpgaaMemSpoil
import Derived.Test.YtabeljpnmmfpgaaRefCopy
import Derived.Deep.RegionHeld3
namespace Go.Proofs.Ytabeljpnmmfpgaa
open Go.RowKit Go.MapKept
set_option linter.unusedVariables false
set_option linter.unusedSimpArgs false

theorem sliceN {W : World} {base n size : Nat} {t : TypeId} {v : Value} {xs : List Value} (ho : W.ownsRow base t size v n xs) : ∃ a c, v = .slice a n c := by
  rcases ho.2 with ⟨rfl, rfl⟩ | ⟨g, cap, cur, rfl, _⟩ <;> exact ⟨_, _, rfl⟩

theorem TonesIn.quiet {w w' : World} {v : Value} {l : List (Int × Int × Int)} (h : TonesIn w v l) (q : Quiet w w') : TonesIn w' v l := by
  obtain ⟨n, rfl⟩ := q; exact h

/-- The clone's tones while the caller writes to them. -/
structure TnRel (w1 W : World) (B n : Nat) (v : Value) : Prop where
  below : Below B w1 W
  row : ∃ xs, W.ownsRow B 92 3 v n xs
theorem TnRel.start {Wb w1 : World} {a B n : Nat} {v : Value} {xs : List Value} (hb : Below (Wb.drewN a).heap.size (Wb.drewN a) w1) (ho : w1.ownsRow (Wb.drewN a).heap.size 92 3 v n xs) (m : Nat) (hB : Wb.heap.size = B) : TnRel Wb (w1.drewN m) B n v := by
  subst hB
  exact ⟨⟨hb.os, hb.tape, hb.output, hb.size, hb.block⟩, xs, ho⟩
theorem TnRel.grow {Wb wr w5 : World} {B n : Nat} {v : Value} {xs : List Value} {X : Array Value} {t : TypeId} (hbw : Below B Wb wr) (hB : Wb.heap.size = B) (hx : wr.ownsRow B 92 3 v n xs) (hg : (wr.alloc (.cells X t)).grownBy w5 v.ownBlock) : Below Wb.heap.size Wb w5 := by
  subst hB
  have hsz := hbw.size
  exact Below.grown (hbw.alloc hsz _) hg (by simp; omega) (fun q hq => (hx.lt q hq).1)
theorem TnRel.step {w1 W : World} {B n g c k : Nat} (h : TnRel w1 W B n (.slice (some ⟨g, 0, none⟩) n c)) (u : Value) (hk : k < n) :
    (∃ z, W.cell? ⟨g, k * 3 + 1, none⟩ = some z) ∧ W.frozen? ⟨g, k * 3 + 1, none⟩ = false ∧ TnRel w1 (W.setCell ⟨g, k * 3 + 1, none⟩ u) B n (.slice (some ⟨g, 0, none⟩) n c) := by
  obtain ⟨xs, ho⟩ := h.row
  rcases ho.2 with ⟨h0, _⟩ | ⟨g', cap, cur, h0, hB, hh, h1, h2, h3, h4⟩
  · cases h0
  · cases h0
    refine ⟨⟨cur[k * 3 + 1]'(by omega), ?_⟩, free_of hh _, ?_, xs.set (k * 3 + 1) u, ?_⟩
    · rw [cell_of hh, Array.getElem?_eq_getElem]
    · exact h.below.setCell hB _
    · refine ⟨by rw [List.length_set]; exact ho.1, .inr ⟨g, c, cur.setIfInBounds (k * 3 + 1) u, rfl, hB, heap_set_cell hh _ _, h1, h2, by simpa using h3, ?_⟩⟩
      rw [Array.toList_setIfInBounds, ← h4, List.take_set]

set_option maxRecDepth 100000 in
set_option maxHeartbeats 2000000 in
theorem plays_tones {W : World} {q base k : Nat} {M : Nat → Mm} {b c : Nat → Nat} {S T : Nat → Nat → Prop} (h : PairAt W q base k M b c S T) (which at_ x y cc n : Int) (ho : (⟨10, which, at_, x, y, cc, n⟩ : Opv).Ok) (hk : k + 3 < 1000000000) :
    Calls Try.prog 34 #[.pointer (some ⟨q, 0, none⟩), .agg #[.int .i64 10, .int .i64 which, .int .u16 at_, .int .u16 x, .int .u16 y, .int .u16 cc, .int .i64 n]] W (PlayPost W q base k) := by
  have HD := Lib.hid (PlayHead.start h ⟨10, which, at_, x, y, cc, n⟩)
  obtain ⟨⟨a0, a1⟩, ⟨x0, x1⟩, ⟨y0, y1⟩, ⟨k0, k1⟩⟩ := ho
  dsimp only at a0 a1 x0 x1 y0 y1 k0 k1
  have SL : Hid (∀ i, i < 2 → (W.alloc (.cells #[.int .i64 10, .int .i64 which, .int .u16 at_, .int .u16 x, .int .u16 y, .int .u16 cc, .int .i64 n] 76)).cell? ⟨q, i, none⟩ = some (.pointer (some ⟨b i, 0, none⟩)) ∧ (W.alloc (.cells #[.int .i64 10, .int .i64 which, .int .u16 at_, .int .u16 x, .int .u16 y, .int .u16 cc, .int .i64 n] 76)).cell? ⟨q, 2 + i, none⟩ = some (.pointer (some ⟨c i, 0, none⟩))) := fun i hi => HD.out.pair.slots hi
  clear h
  obtain ⟨i, hi, hw⟩ : ∃ i : Nat, i < 2 ∧ (which.tmod 2 + 2) % 2 = (i : Int) := ⟨((which.tmod 2 + 2) % 2).toNat, by have := which_cases which; omega, by have := which_cases which; omega⟩
  have HW := Lib.hid hw
  have wl : -1 ≤ which.tmod 2 := by have := which_cases which; omega
  have wu : which.tmod 2 ≤ 1 := by have := which_cases which; omega
  clear hw
  go_enter Try.func34, Try.ntmps34
  go_upto_region 2 with (fail)
  rw [HW.out]
  have i0 : (0 : Int) ≤ (i : Int) := by omega
  have i2 : (i : Int) < 2 := by omega
  obtain ⟨s1, s2⟩ := SL.out i hi
  go_quiet (fail)
  have HN := Lib.hid (HD.out.next (Quiet.below ⟨nq, rfl⟩))
  have HT := Lib.hid (HD.out.pair.tones i hi)
  clear s1 s2
  obtain ⟨nT, hnT⟩ : ∃ z, z = (M i).tones.length := ⟨_, rfl⟩
  have hsm : nT < 1000000000 := by have := HT.out; omega
  go_wp2_with (go_at_call 23; refine (tones_rep (HN.out.pair.mem i hi) (by omega)).mono ?_; rintro e w1 ⟨v1, rfl, ho, hb⟩; have N1 := Lib.hid (HN.out.next hb); have RF := Lib.hid (N1.out.pair.ref i hi); obtain ⟨rl, rbx, rbv, rbr, rbs, rtv, RA⟩ := RF.out; obtain ⟨q0, q1, q2, q3, q4, q5, q6, q7, q8, q9, qf⟩ := RA.cells; have T1 := Lib.hid (TonesIn.of_own ho); have T2 := Lib.hid (TonesIn.of_own RA.tones); rw [← hnT] at ho; have hrt := RA.tones; rw [← hnT] at hrt; obtain ⟨av, cv, rfl⟩ := sliceN ho; obtain ⟨ra, rc, rfl⟩ := sliceN hrt; have HO := Lib.hid ho; have HB := Lib.hid hb; have HnT := Lib.hid hnT; clear ho hb hrt RA qf q0 q1 q2 q3 q5 q6 q7 q8 hnT)
  have CS : Hid (∀ m, Calls Try.prog 36 #[.slice av nT cv, .slice ra nT rc] (w1.drewN m) fun e w' => e = .returned (.bool true) ∧ ∃ j, w' = (w1.drewN m).drewN j) := fun m =>
    sameTones_any (w1.drewN m) _ _ (M i).tones (T1.out.quiet ⟨m, rfl⟩) (T2.out.quiet ⟨m, rfl⟩) (by rw [← HnT.out]; omega)
  have CP : Hid (∀ m, Calls Try.prog 16 #[.pointer (some ⟨b i, 0, none⟩)] (w1.drewN m) fun e w' => e = .returned (.int .u8 (M i).pad) ∧ ∃ j, w' = (w1.drewN m).drewN j) := fun m =>
    pad_rep (w := w1.drewN m) ((N1.out.pair.mem i hi).quiet ⟨m, rfl⟩)
  go_quiet ((first | (go_at_call 36; exact Calls.quiet_of (CS.out _)) | (go_at_call 16; exact Calls.quiet_of (CP.out _))))
  clear CS CP
  have START := Lib.hid (TnRel.start HB.out HO.out nq (show _ = W.heap.size + 1 by simp))
  go_wp2_with (fail)
  go_loopw [177] (fun j wr => ∃ m : Nat, m ≤ nT ∧ j = .int .i64 m ∧ TnRel (W.alloc (.cells #[.int .i64 10, .int .i64 which, .int .u16 at_, .int .u16 x, .int .u16 y, .int .u16 cc, .int .i64 n] 76)) wr (W.heap.size + 1) nT (.slice av nT cv)) (fun j _ => nT - (intOf j).toNat)
  case atStart => exact ⟨0, Nat.zero_le _, rfl, START.out⟩
  case round =>
    obtain ⟨m, hm, rfl, hrel⟩ := hrel
    by_cases hlt : m < nT
    · obtain ⟨g, rfl⟩ : ∃ g, av = some ⟨g, 0, none⟩ := by
        obtain ⟨xs, ho⟩ := hrel.row
        rcases ho.2 with ⟨_, h0⟩ | ⟨g, cap, cur, h0, _⟩
        · omega
        · cases h0; exact ⟨g, rfl⟩
      obtain ⟨⟨z, z1⟩, z2, z3⟩ := hrel.step (.int .u16 7) hlt
      have Z3 := Lib.hid z3
      clear hrel z3
      go_wp2_with (fail)
      go_roundw
      case rel => exact ⟨m + 1, hlt, by go_num, Z3.out⟩
      case measure => simp [intOf]; omega
    · obtain ⟨xs, hx⟩ := hrel.row
      have hbw := hrel.below
      have HX : Hid ((wr.alloc (.cells #[.int .i64 0, .int .u16 9, .int .u8 0] 92)).ownsRow (W.heap.size + 1) 92 3 (.slice av nT cv) nT xs) := hx.alloc _
      have HBW := Lib.hid hbw
      have hszw : W.heap.size + 1 ≤ wr.heap.size := by have := hbw.size; simpa using this
      have HXL := Lib.hid hx
      have HN3 := Lib.hid (news_cells wr 92 0 9 0)
      obtain ⟨i0, hi0, hz0, hz1, hz2⟩ := info_parts infoTone
      clear hrel hx hbw
      go_wp2_with (at_builtin; refine wpList_append_own _ rfl (.tmp 185) (.tmp 187) 55 rfl (W.heap.size + 1) 92 i0 (.agg #[.int .i64 0, .int .u16 0, .int .u8 0]) 3 16 Try.underlying55 hi0 hz0 hz1 hz2 rfl (by decide) (.slice av nT cv) nT xs rfl HX.out ⟨wr.heap.size, 0, none⟩ 1 1 [.int .i64 0, .int .u16 9, .int .u8 0] rfl rfl HN3.out (by simp [Value.oneCell']) (by simp only [maxLen]; omega) (by omega) (by simp; omega) ?_; intro v2 w5 ho5 hg5 hn5; obtain ⟨a5, c5, rfl⟩ := sliceN ho5; have B5 := Lib.hid (TnRel.grow HBW.out (by simp) HXL.out hg5); have N5 := Lib.hid (HD.out.next B5.out); obtain ⟨rl5, rbx5, rbv5, rbr5, rbs5, rtv5, RA5⟩ := N5.out.pair.ref i hi; obtain ⟨_, _, _, _, _, _, _, _, _, p9, _⟩ := RA5.cells; have hrt5 := RA5.tones; rw [← HnT.out] at hrt5; obtain ⟨ra5, rc5, rfl⟩ := sliceN hrt5; have FIN := Lib.hid (N5.out.same (Below.refl _ _)); clear ho5 hg5 hn5 RA5 hrt5)
      go_ret
      exact FIN.out

/-- Two screens: what apart asks. -/
theorem two_lists {W : World} {g0 g1 : Nat} (h0 : ∃ cs : Array Value, W.heap[g0]? = some (.cells cs 85 (0, 0)) ∧ cs.size = 3072) (h1 : ∃ cs : Array Value, W.heap[g1]? = some (.cells cs 85 (0, 0)) ∧ cs.size = 3072) (hne : g0 ≠ g1) :
    Lists W 2 (fun i => if i = 0 then .slice (some ⟨g0, 0, none⟩) 3072 3072 else .slice (some ⟨g1, 0, none⟩) 3072 3072) (fun i => if i = 0 then g0 else g1) (fun _ => 3072) := by
  obtain ⟨c0, a0, a1⟩ := h0
  obtain ⟨c1, b0, b1⟩ := h1
  refine ⟨fun i hi => ?_, fun i j hi hj e => ?_, fun i hi => by omega⟩
  · have : i = 0 ∨ i = 1 := by omega
    rcases this with rfl | rfl
    · exact ⟨3072, c0, _, rfl, a0, Nat.le_refl _, by omega⟩
    · exact ⟨3072, c1, _, rfl, b0, Nat.le_refl _, by omega⟩
  · have i2 : i = 0 ∨ i = 1 := by omega
    have j2 : j = 0 ∨ j = 1 := by omega
    rcases i2 with rfl | rfl <;> rcases j2 with rfl | rfl
    · rfl
    · exact absurd e hne
    · exact absurd e.symm hne
    · rfl

theorem screens_apart {wb w1 w2 : World} {g0 g1 : Nat} (hb1 : Below wb.heap.size wb w1) (h0 : ∃ cs : Array Value, w1.heap[g0]? = some (.cells cs 85 (0, 0)) ∧ cs.size = 3072) (hg0 : wb.heap.size ≤ g0) (hb2 : Below w1.heap.size w1 w2)
    (h1 : ∃ cs : Array Value, w2.heap[g1]? = some (.cells cs 85 (0, 0)) ∧ cs.size = 3072) (hg1 : w1.heap.size ≤ g1) :
    Calls Try.prog 53 #[.slice (some ⟨w2.heap.size, 0, none⟩) 2 2] (w2.alloc (.cells #[.slice (some ⟨g0, 0, none⟩) 3072 3072, .slice (some ⟨g1, 0, none⟩) 3072 3072] 35)) fun e w4 => e = .returned (.bool true) ∧ Hid (Below wb.heap.size wb w4) := by
  obtain ⟨c0, a0, a1⟩ := h0
  obtain ⟨c1, b0, b1⟩ := h1
  have l0 := heap_lt a0
  have l1 := heap_lt b0
  have z1 := hb1.size
  have z2 := hb2.size
  have hL := two_lists (g0 := g0) (g1 := g1) (W := w2.alloc (.cells #[.slice (some ⟨g0, 0, none⟩) 3072 3072, .slice (some ⟨g1, 0, none⟩) 3072 3072] 35)) ⟨c0, by rw [Below.heap_alloc _ _ _ (by omega), hb2.block _ l0]; exact a0, a1⟩ ⟨c1, heap_alloc_old b0, b1⟩ (by omega)
  refine (apart_any _ w2.heap.size 0 2 2 _ _ _ ⟨fun i hi => ?_⟩ (by simp) hL (fun i hi => ?_) (by omega) (by omega)).mono fun e w4 ⟨e1, hu⟩ => ⟨e1, ?_⟩
  · have : i = 0 ∨ i = 1 := by omega
    rw [cell_of (heap_alloc_at w2 _)]
    rcases this with rfl | rfl <;> rfl
  · have : i = 0 ∨ i = 1 := by omega
    rcases this with rfl | rfl
    · simp only [if_true]; omega
    · simp; omega
  · refine ((hb1.trans (hb2.mono z1)).alloc (by omega) _).trans (hu.below (by simp; omega) (fun x ⟨i, hi, e⟩ => ?_))
    have : i = 0 ∨ i = 1 := by omega
    rcases this with rfl | rfl
    · simp only [if_true] at e; omega
    · simp at e; omega

set_option maxRecDepth 100000 in
set_option maxHeartbeats 2000000 in
theorem plays_screen {W : World} {q base k : Nat} {M : Nat → Mm} {b c : Nat → Nat} {S T : Nat → Nat → Prop} (h : PairAt W q base k M b c S T) (which at_ x y cc n : Int) (ho : (⟨11, which, at_, x, y, cc, n⟩ : Opv).Ok) (hk : k + 3 < 1000000000) :
    Calls Try.prog 34 #[.pointer (some ⟨q, 0, none⟩), .agg #[.int .i64 11, .int .i64 which, .int .u16 at_, .int .u16 x, .int .u16 y, .int .u16 cc, .int .i64 n]] W (PlayPost W q base k) := by
  have HD := Lib.hid (PlayHead.start h ⟨11, which, at_, x, y, cc, n⟩)
  obtain ⟨⟨a0, a1⟩, ⟨x0, x1⟩, ⟨y0, y1⟩, ⟨k0, k1⟩⟩ := ho
  dsimp only at a0 a1 x0 x1 y0 y1 k0 k1
  have SL : Hid (∀ i, i < 2 → (W.alloc (.cells #[.int .i64 11, .int .i64 which, .int .u16 at_, .int .u16 x, .int .u16 y, .int .u16 cc, .int .i64 n] 76)).cell? ⟨q, i, none⟩ = some (.pointer (some ⟨b i, 0, none⟩)) ∧ (W.alloc (.cells #[.int .i64 11, .int .i64 which, .int .u16 at_, .int .u16 x, .int .u16 y, .int .u16 cc, .int .i64 n] 76)).cell? ⟨q, 2 + i, none⟩ = some (.pointer (some ⟨c i, 0, none⟩))) := fun i hi => HD.out.pair.slots hi
  clear h
  obtain ⟨i, hi, hw⟩ : ∃ i : Nat, i < 2 ∧ (which.tmod 2 + 2) % 2 = (i : Int) := ⟨((which.tmod 2 + 2) % 2).toNat, by have := which_cases which; omega, by have := which_cases which; omega⟩
  have HW := Lib.hid hw
  have wl : -1 ≤ which.tmod 2 := by have := which_cases which; omega
  have wu : which.tmod 2 ≤ 1 := by have := which_cases which; omega
  clear hw
  go_enter Try.func34, Try.ntmps34
  go_upto_region 2 with (fail)
  rw [HW.out]
  have i0 : (0 : Int) ≤ (i : Int) := by omega
  have i2 : (i : Int) < 2 := by omega
  obtain ⟨s1, s2⟩ := SL.out i hi
  go_quiet (fail)
  have HN := Lib.hid (HD.out.next (Quiet.below ⟨nq, rfl⟩))
  have HT := Lib.hid (HD.out.pair.tones i hi)
  clear s1 s2
  have S1 : Hid (∀ Wx, PlayHead W Wx q base k M b c S T ⟨11, which, at_, x, y, cc, n⟩ → Calls Try.prog 29 #[.pointer (some ⟨b i, 0, none⟩)] Wx fun e w' => ∃ g, e = .returned (.slice (some ⟨g, 0, none⟩) 3072 3072) ∧
      Hid (BytesIn w' (.slice (some ⟨g, 0, none⟩) 3072 3072) (bytesOf (M i).scr 3072) ∧ (∃ cs : Array Value, w'.heap[g]? = some (.cells cs 85 (0, 0)) ∧ cs.size = 3072) ∧ Wx.heap.size ≤ g) ∧ Hid (PlayHead W w' q base k M b c S T ⟨11, which, at_, x, y, cc, n⟩) ∧ Hid (Below Wx.heap.size Wx w')) := fun Wx h =>
    (screen_rep (h.pair.mem i hi)).mono fun e w' ⟨e1, h1, h2, h3⟩ => ⟨_, e1, ⟨h1, h2, Nat.le_refl _⟩, h.next h3, h3⟩
  have FS : Hid (∃ bs, (∀ w', Below ((W.alloc (.cells #[.int .i64 11, .int .i64 which, .int .u16 at_, .int .u16 x, .int .u16 y, .int .u16 cc, .int .i64 n] 76)).drewN nq).heap.size ((W.alloc (.cells #[.int .i64 11, .int .i64 which, .int .u16 at_, .int .u16 x, .int .u16 y, .int .u16 cc, .int .i64 n] 76)).drewN nq) w' → w'.cell? ⟨c i, 2, none⟩ = some (.slice (some ⟨bs, 0, none⟩) 3072 3072) ∧ BytesIn w' (.slice (some ⟨bs, 0, none⟩) 3072 3072) (bytesOf (M i).scr 3072))) := by
    obtain ⟨rl, rbx, rbv, rbr, rbs, rtv, RA⟩ := HN.out.pair.ref i hi
    refine ⟨rbs, fun w' hb => ?_⟩
    have h2 := RA.cells.2.2.1
    exact ⟨cell_keep hb h2 (World.block_lt_of_cell? _ _ h2), (RA.scr.bytes).below hb⟩
  obtain ⟨rbs, hFS⟩ := FS.out
  have FB := Lib.hid hFS
  clear hFS FS
  go_wp2_with (go_at_call 29; refine Calls.mono (S1.out _ HN.out) ?_; rintro e w1 ⟨g0, rfl, G1, N1, B1⟩)
  obtain ⟨s, hs⟩ : ∃ s, s = bstr (bytesOf (M i).scr 3072) := ⟨_, rfl⟩
  have v0 : ∀ m, (convert 35 9 (.slice (some ⟨g0, 0, none⟩) 3072 3072)).run Try.prog (w1.drewN m) = .ok (.string s) (w1.drewN m) := fun m => hs ▸
    run_conv_bytes Try.underlying35 Try.underlying5 Try.underlying9 (G1.out.1.quiet ⟨m, rfl⟩)
  have u0 : ∀ m, (convert 35 9 (.slice (some ⟨rbs, 0, none⟩) 3072 3072)).run Try.prog (w1.drewN m) = .ok (.string s) (w1.drewN m) := fun m => hs ▸
    run_conv_bytes Try.underlying35 Try.underlying5 Try.underlying9 ((FB.out w1 B1.out).2.quiet ⟨m, rfl⟩)
  have T0 : Hid (w1.drew.cell? ⟨c i, 2, none⟩ = some (.slice (some ⟨rbs, 0, none⟩) 3072 3072)) := (FB.out w1 B1.out).1
  have N1' : Hid (PlayHead W w1.drew q base k M b c S T ⟨11, which, at_, x, y, cc, n⟩) := N1.out.next (Quiet.below ⟨1, rfl⟩)
  have v1 := v0 1
  have u1 := u0 1
  have w11 : w1.drewN 1 = w1.drew := rfl
  rw [w11] at v1 u1
  clear hs v0 u0 w11
  have t0 : w1.cell? ⟨c i, 2, none⟩ = some (.slice (some ⟨rbs, 0, none⟩) 3072 3072) := (FB.out w1 B1.out).1
  go_region_law (first
      | (go_simp; go_at_call 29; refine Calls.mono (S1.out _ N1'.out) ?_; rintro e w2 ⟨g1, rfl, G2, N2, B2⟩; dsimp only; have CA := Lib.hid (screens_apart B1.out G1.out.2.1 G1.out.2.2 (show Below w1.heap.size w1 w2 from (Quiet.below ⟨1, rfl⟩).trans B2.out) G2.out.2.1 G2.out.2.2))
      | (go_simp; go_at_call 53; refine CA.out.mono ?_; rintro e w4 ⟨rfl, B4⟩; dsimp only; have FIN := Lib.hid (HN.out.same B4.out)))
  all_goals
    go_wp2_with (fail)
    go_ret
    exact FIN.out
end Go.Proofs.Ytabeljpnmmfpgaa
