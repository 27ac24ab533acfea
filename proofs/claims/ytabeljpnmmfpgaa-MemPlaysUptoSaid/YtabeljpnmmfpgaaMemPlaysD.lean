/-
  A step of a script that asks for the image.
-/
import Derived.Test.YtabeljpnmmfpgaaMemPlaysA
import Derived.Test.YtabeljpnmmfpgaaMemImg3
import Derived.Test.YtabeljpnmmfpgaaMemSpoil
namespace Go.Proofs.Ytabeljpnmmfpgaa
open Go.RowKit Go.MapKept
set_option linter.unusedVariables false
set_option linter.unusedSimpArgs false
attribute [local irreducible] bytesOf

theorem ImgIn.slices {w : World} {I : Img} {b r s : Value} {dv : Nat → Value} (h : ImgIn w I b r s dv) : (∃ a c, b = .slice a I.banks.length c) ∧ (∃ a c, r = .slice a I.ram.length c) ∧ ∃ a c, s = .slice a I.scr.length c := by
  obtain ⟨a1, c1, h1, _⟩ := h.banks.row
  obtain ⟨a2, c2, h2, _⟩ := h.ram
  obtain ⟨a3, c3, h3, _⟩ := h.scr
  exact ⟨⟨a1, c1, h1⟩, ⟨a2, c2, h2⟩, ⟨a3, c3, h3⟩⟩

set_option maxRecDepth 100000 in
set_option maxHeartbeats 2000000 in
theorem plays_image {W : World} {q base k : Nat} {M : Nat → Mm} {b c : Nat → Nat} {S T : Nat → Nat → Prop} (h : PairAt W q base k M b c S T) (which at_ x y cc n : Int) (ho : (⟨12, which, at_, x, y, cc, n⟩ : Opv).Ok) (hk : k + 3 < 1000000000) :
    Calls Try.prog 34 #[.pointer (some ⟨q, 0, none⟩), .agg #[.int .i64 12, .int .i64 which, .int .u16 at_, .int .u16 x, .int .u16 y, .int .u16 cc, .int .i64 n]] W (PlayPost W q base k) := by
  have HD := Lib.hid (PlayHead.start h ⟨12, which, at_, x, y, cc, n⟩)
  obtain ⟨⟨a0, a1⟩, ⟨x0, x1⟩, ⟨y0, y1⟩, ⟨k0, k1⟩⟩ := ho
  dsimp only at a0 a1 x0 x1 y0 y1 k0 k1
  have SL : Hid (∀ i, i < 2 → (W.alloc (.cells #[.int .i64 12, .int .i64 which, .int .u16 at_, .int .u16 x, .int .u16 y, .int .u16 cc, .int .i64 n] 76)).cell? ⟨q, i, none⟩ = some (.pointer (some ⟨b i, 0, none⟩)) ∧ (W.alloc (.cells #[.int .i64 12, .int .i64 which, .int .u16 at_, .int .u16 x, .int .u16 y, .int .u16 cc, .int .i64 n] 76)).cell? ⟨q, 2 + i, none⟩ = some (.pointer (some ⟨c i, 0, none⟩))) := fun i hi => HD.out.pair.slots hi
  clear h
  obtain ⟨i, hi, hw⟩ : ∃ i : Nat, i < 2 ∧ (which.tmod 2 + 2) % 2 = (i : Int) := ⟨((which.tmod 2 + 2) % 2).toNat, by have := which_cases which; omega, by have := which_cases which; omega⟩
  have HW := Lib.hid hw
  have wl : -1 ≤ which.tmod 2 := by have := which_cases which; omega
  have wu : which.tmod 2 ≤ 1 := by have := which_cases which; omega
  clear hw
  go_enter Try.func34, Try.ntmps34
  go_upto_region 2 with (fail)
  rw [HW.out]
  have i0 : (0 : Int) ≤ (i : Int) := by omega
  have i2 : (i : Int) < 2 := by omega
  obtain ⟨s1, s2⟩ := SL.out i hi
  go_quiet (fail)
  have HN := Lib.hid (HD.out.next (Quiet.below ⟨nq, rfl⟩))
  have HT := Lib.hid (HD.out.pair.tones i hi)
  clear s1 s2
  clear HD SL
  replace HN : Hid (PlayHead W ((W.alloc (.cells #[.int .i64 12, .int .i64 which, .int .u16 at_, .int .u16 x, .int .u16 y, .int .u16 cc, .int .i64 n] 76)).drewN nq) q base k M b c S T ⟨12, which, at_, x, y, cc, n⟩) := HN
  generalize (W.alloc (.cells #[.int .i64 12, .int .i64 which, .int .u16 at_, .int .u16 x, .int .u16 y, .int .u16 cc, .int .i64 n] 76)).drewN nq = wb at HN ⊢
  obtain ⟨t0, t1, t2, t3, t4, t5, t6⟩ := box7 HN.out.box
  dsimp only at t0 t1 t2 t3 t4 t5 t6
  clear t1 t2 t3 t4 t5 t6
  obtain ⟨l, hn⟩ := (HN.out.pair.ref i hi).nums
  have NL := Lib.hid hn
  obtain ⟨I, hI⟩ : ∃ I, I = memImg (M i) l := ⟨_, rfl⟩
  have IE := Lib.hid hI
  have lenI : Hid (I.banks.length = l.length) := by rw [hI]; exact memImg_len _ _
  have len16 := NL.out.len
  have C1 : Hid (Calls Try.prog 22 #[.pointer (some ⟨b i, 0, none⟩)] wb fun e w1 => ∃ (a1 a2 a3 : Option Addr) (n1 c1 n2 c2 n3 c3 : Nat), e = .returned (.agg #[.slice a1 n1 c1, .slice a2 n2 c2, .slice a3 n3 c3, .int .u8 I.chosen, .int .u8 I.pad, .int .u16 I.pitch, .int .u8 I.volume, .int .u16 I.time]) ∧
      Hid (∃ dv, ImgIn w1 I (.slice a1 n1 c1) (.slice a2 n2 c2) (.slice a3 n3 c3) dv ∧ Handed wb w1 l.length dv (.slice a2 n2 c2) (.slice a3 n3 c3)) ∧ Hid (Below wb.heap.size wb w1)) := by
    refine (image_img (HN.out.pair.mem i hi) hn).mono ?_
    rintro e w1 ⟨bv, r, s, dv, rfl, h1, h2, h3⟩
    rw [← hI] at h1 ⊢
    obtain ⟨⟨a1, c1, rfl⟩, ⟨a2, c2, rfl⟩, ⟨a3, c3, rfl⟩⟩ := h1.slices
    exact ⟨a1, a2, a3, _, c1, _, c2, _, c3, rfl, ⟨dv, h1, h3⟩, h2⟩
  have C2 : Hid (∀ (W' : World) (a1 a2 a3 : Option Addr) (n1 c1 n2 c2 n3 c3 : Nat), Calls Try.prog 21 #[.agg #[.slice a1 n1 c1, .slice a2 n2 c2, .slice a3 n3 c3, .int .u8 I.chosen, .int .u8 I.pad, .int .u16 I.pitch, .int .u8 I.volume, .int .u16 I.time]] W' fun e w' => e = .returned (.agg #[.slice a1 n1 c1, .slice a2 n2 c2, .slice a3 n3 c3, .int .u8 I.chosen, .int .u8 I.pad, .int .u16 I.pitch, .int .u8 I.volume, .int .u16 I.time]) ∧ Hid (Below W'.heap.size W' w')) := fun W' a1 a2 a3 n1 c1 n2 c2 n3 c3 =>
    image_any W' I _ _ _ ⟨_, _, _, rfl⟩ ⟨_, _, _, rfl⟩ ⟨_, _, _, rfl⟩
  have C3 : Hid (∀ W', Below wb.heap.size wb W' → Calls Try.prog 35 #[.pointer (some ⟨c i, 0, none⟩)] W' fun e w' => ∃ (a1 a2 a3 : Option Addr) (n1 c1 n2 c2 n3 c3 : Nat), e = .returned (.agg #[.slice a1 n1 c1, .slice a2 n2 c2, .slice a3 n3 c3, .int .u8 I.chosen, .int .u8 I.pad, .int .u16 I.pitch, .int .u8 I.volume, .int .u16 I.time]) ∧
      Hid (∃ dv, ImgIn w' I (.slice a1 n1 c1) (.slice a2 n2 c2) (.slice a3 n3 c3) dv) ∧ Hid (Below W'.heap.size W' w')) := fun W' hb => by
    refine (refImage_img ((HN.out.next hb).pair.ref i hi) (by have := HT.out; omega) hn).mono ?_
    rintro e w' ⟨bx, bv, br, bs, rfl, h1, h2, h3⟩
    rw [← hI] at h2 ⊢
    obtain ⟨⟨a1, c1, rfl⟩, _, _⟩ := h2.slices
    exact ⟨a1, _, _, _, c1, _, _, _, _, rfl, ⟨_, h2⟩, h3⟩
  clear hn hI
  go_wp2_with (first
    | (go_at_call 22; refine C1.out.mono ?_; rintro e w1 ⟨a1, a2, a3, n1, c1, n2, c2, n3, c3, rfl, G1, B1⟩)
    | (go_at_call 21; refine (C2.out _ a1 a2 a3 n1 c1 n2 c2 n3 c3).mono ?_; rintro e w2 ⟨rfl, B2⟩; have BA := Lib.hid (((Below.refl w1.heap.size w1).alloc (Nat.le_refl _) (.cells #[.slice a1 n1 c1, .slice a2 n2 c2, .slice a3 n3 c3, .int .u8 I.chosen, .int .u8 I.pad, .int .u16 I.pitch, .int .u8 I.volume, .int .u16 I.time] 49)).trans (B2.out.mono (by simp))); have BB := Lib.hid (B1.out.trans (BA.out.mono B1.out.size)); have X2 : Hid (w2.heap[w1.heap.size]? = some (.cells #[.slice a1 n1 c1, .slice a2 n2 c2, .slice a3 n3 c3, .int .u8 I.chosen, .int .u8 I.pad, .int .u16 I.pitch, .int .u8 I.volume, .int .u16 I.time] 49 (0, 0))) := (B2.out.block _ (by simp)).trans (heap_alloc_at w1 _))
    | (go_at_call 35; refine (C3.out _ BB.out).mono ?_; rintro e w3 ⟨d1, d2, d3, m1, e1, m2, e2, m3, e3, rfl, G3, B3⟩)
    | (go_at_call 20; have C4 : Hid (Calls Try.prog 20 #[.agg #[.slice a1 n1 c1, .slice a2 n2 c2, .slice a3 n3 c3, .int .u8 I.chosen, .int .u8 I.pad, .int .u16 I.pitch, .int .u8 I.volume, .int .u16 I.time], .agg #[.slice d1 m1 e1, .slice d2 m2 e2, .slice d3 m3 e3, .int .u8 I.chosen, .int .u8 I.pad, .int .u16 I.pitch, .int .u8 I.volume, .int .u16 I.time]] w3 fun e w' => e = .returned (.bool true) ∧ Hid (Below w3.heap.size w3 w')) := (by obtain ⟨dv, g1, _⟩ := G1.out; obtain ⟨du, g3⟩ := G3.out; exact sameImage_any w3 I _ _ _ _ _ _ dv du ((g1.below BA.out).below B3.out) g3 (by have := lenI.out; omega)); refine C4.out.mono ?_; rintro e w4 ⟨rfl, B4⟩; have X4 := Lib.hid (cells8 ((B4.out.block _ (by have := B3.out.size; have := heap_lt X2.out; omega)).trans ((B3.out.block _ (heap_lt X2.out)).trans X2.out))); obtain ⟨z0, z1, z2, z3, z4, z5, z6, z7, _⟩ := X4.out)
    | (go_at_call 54; have C5 : Hid (Calls Try.prog 54 #[.agg #[.slice a1 n1 c1, .slice a2 n2 c2, .slice a3 n3 c3, .int .u8 I.chosen, .int .u8 I.pad, .int .u16 I.pitch, .int .u8 I.volume, .int .u16 I.time]] w4 fun e w' => e = .returned (.bool true) ∧ Hid (Below wb.heap.size wb w')) := (by obtain ⟨dv, g1, g2⟩ := G1.out; have b14 := BA.out.trans ((B3.out.mono BA.out.size).trans (B4.out.mono (by have := BA.out.size; have := B3.out.size; omega))); have gb := g1.below b14; refine (spoil_any w4 I.banks _ _ _ dv I.chosen I.pad I.pitch I.volume I.time gb.banks ⟨⟨_, _, _, rfl⟩, ⟨_, _, _, rfl⟩⟩ wb w1.heap.size (lenI.out ▸ g2.later (Upd.of_below b14 (fun _ => False)) (fun _ h => h.elim)) (by have := lenI.out; omega)).mono ?_; rintro e w' ⟨e1, hu⟩; exact ⟨e1, (B1.out.trans (b14.mono B1.out.size)).trans (hu.below (by have := B1.out.size; have := b14.size; omega) (fun x hx => hx.1))⟩); refine C5.out.mono ?_; rintro e w5 ⟨rfl, B5⟩; have FIN := Lib.hid (HN.out.same B5.out)))
  go_ret
  exact FIN.out
end Go.Proofs.Ytabeljpnmmfpgaa
