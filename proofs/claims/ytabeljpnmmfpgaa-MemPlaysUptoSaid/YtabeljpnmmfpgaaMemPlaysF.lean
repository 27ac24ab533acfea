/-
  A step of a script that restores a memory from the other one's image.
-/
import Derived.Test.YtabeljpnmmfpgaaMemRestF
import Derived.Test.YtabeljpnmmfpgaaMemPlaysD
namespace Go.Proofs.Ytabeljpnmmfpgaa
open Go.RowKit Go.MapKept
set_option linter.unusedVariables false
set_option linter.unusedSimpArgs false
attribute [local irreducible] bytesOf

/-- Behind the two stores into the pair: the image's box and what it holds are as they were. -/
theorem rest_mid {W wb w1 w2 wr w3 w4 w5 : World} {q base k : Nat} {M : Nat → Mm} {b c : Nat → Nat} {S T : Nat → Nat → Prop} {o : Opv} (h : PlayHead W wb q base k M b c S T o) {j : Nat} (hj : j < 2) {b' c' : Nat} (b1 : Below wb.heap.size wb w1) (b2 : Below w1.heap.size w1 w2) (br : Below w2.heap.size w2 wr)
    (b3 : Below wr.heap.size wr w3) (b4 : Below w3.heap.size w3 w4) (b5 : Below w4.heap.size w4 w5) {v0 v1 v2 v3 v4 v5 v6 v7 : Value} {t : TypeId} (hx : wr.heap[w2.heap.size]? = some (.cells #[v0, v1, v2, v3, v4, v5, v6, v7] t (0, 0))) {I : Img} {bv r s : Value} {du : Nat → Value} (hI : ImgIn w2 I bv r s du) {n : Nat} (hH : Handed w1 w2 n du r s) :
    ((((w5.setCell ⟨q, j, none⟩ (ptr b')).setCell ⟨q, 2 + j, none⟩ (ptr c')).cell? ⟨w2.heap.size, 0, none⟩ = some v0 ∧ ((w5.setCell ⟨q, j, none⟩ (ptr b')).setCell ⟨q, 2 + j, none⟩ (ptr c')).cell? ⟨w2.heap.size, 1, none⟩ = some v1 ∧ ((w5.setCell ⟨q, j, none⟩ (ptr b')).setCell ⟨q, 2 + j, none⟩ (ptr c')).cell? ⟨w2.heap.size, 2, none⟩ = some v2 ∧
      ((w5.setCell ⟨q, j, none⟩ (ptr b')).setCell ⟨q, 2 + j, none⟩ (ptr c')).cell? ⟨w2.heap.size, 3, none⟩ = some v3 ∧ ((w5.setCell ⟨q, j, none⟩ (ptr b')).setCell ⟨q, 2 + j, none⟩ (ptr c')).cell? ⟨w2.heap.size, 4, none⟩ = some v4 ∧ ((w5.setCell ⟨q, j, none⟩ (ptr b')).setCell ⟨q, 2 + j, none⟩ (ptr c')).cell? ⟨w2.heap.size, 5, none⟩ = some v5 ∧
      ((w5.setCell ⟨q, j, none⟩ (ptr b')).setCell ⟨q, 2 + j, none⟩ (ptr c')).cell? ⟨w2.heap.size, 6, none⟩ = some v6 ∧ ((w5.setCell ⟨q, j, none⟩ (ptr b')).setCell ⟨q, 2 + j, none⟩ (ptr c')).cell? ⟨w2.heap.size, 7, none⟩ = some v7 ∧ True) ∧
     BanksIn ((w5.setCell ⟨q, j, none⟩ (ptr b')).setCell ⟨q, 2 + j, none⟩ (ptr c')) bv I.banks du ∧ Handed2 w1 w2.heap.size ((w5.setCell ⟨q, j, none⟩ (ptr b')).setCell ⟨q, 2 + j, none⟩ (ptr c')) n du r s) := by
  have z1 := b1.size; have z2 := b2.size; have zr := br.size; have z3 := b3.size; have z4 := b4.size; have z5 := b5.size
  have hql : q < wb.heap.size := heap_lt h.pair.obj
  have hxl := heap_lt hx
  have br5 : Below w2.heap.size w2 w5 := br.trans ((b3.mono (by omega)).trans ((b4.mono (by omega)).trans (b5.mono (by omega))))
  have u6 : Upd w5 ((w5.setCell ⟨q, j, none⟩ (ptr b')).setCell ⟨q, 2 + j, none⟩ (ptr c')) (fun x => x = q) := ((Upd.refl w5 (fun x => x = q)).setCell (p := ⟨q, j, none⟩) (fun _ => rfl) _).setCell (p := ⟨q, 2 + j, none⟩) (fun _ => rfl) _
  have ux : ((w5.setCell ⟨q, j, none⟩ (ptr b')).setCell ⟨q, 2 + j, none⟩ (ptr c')).heap[w2.heap.size]? = some (.cells #[v0, v1, v2, v3, v4, v5, v6, v7] t (0, 0)) := by
    rw [u6.block _ (by omega) (by omega), b5.block _ (by omega), b4.block _ (by omega), b3.block _ (by omega)]; exact hx
  have o2 : w2.heap[q]? = some (.cells #[ptr (b 0), ptr (b 1), ptr (c 0), ptr (c 1)] 73 (0, 0)) := by rw [b2.block q (by omega), b1.block q hql]; exact h.pair.obj
  have u26 : Upd w2 ((w5.setCell ⟨q, j, none⟩ (ptr b')).setCell ⟨q, 2 + j, none⟩ (ptr c')) (fun x => x = q) := (Upd.of_below br5 _).trans u6 (fun _ _ h => h)
  refine ⟨⟨?_, ?_, ?_, ?_, ?_, ?_, ?_, ?_, trivial⟩, hI.banks.offPtr (allPtr_pair o2) (fun x hx1 hx2 => u26.block x hx2 hx1), hH.later u26 (fun x e h1 _ => by omega)⟩
  all_goals (rw [cell_of ux]; rfl)

set_option maxRecDepth 100000 in
set_option maxHeartbeats 2000000 in
theorem plays_restore {W : World} {q base k : Nat} {M : Nat → Mm} {b c : Nat → Nat} {S T : Nat → Nat → Prop} (h : PairAt W q base k M b c S T) (which at_ x y cc n : Int) (ho : (⟨14, which, at_, x, y, cc, n⟩ : Opv).Ok) (hk : k + 3 < 1000000000) :
    Calls Try.prog 34 #[.pointer (some ⟨q, 0, none⟩), .agg #[.int .i64 14, .int .i64 which, .int .u16 at_, .int .u16 x, .int .u16 y, .int .u16 cc, .int .i64 n]] W (PlayPost W q base k) := by
  have HD := Lib.hid (PlayHead.start h ⟨14, which, at_, x, y, cc, n⟩)
  obtain ⟨⟨a0, a1⟩, ⟨x0, x1⟩, ⟨y0, y1⟩, ⟨k0, k1⟩⟩ := ho
  dsimp only at a0 a1 x0 x1 y0 y1 k0 k1
  have SL : Hid (∀ i, i < 2 → (W.alloc (.cells #[.int .i64 14, .int .i64 which, .int .u16 at_, .int .u16 x, .int .u16 y, .int .u16 cc, .int .i64 n] 76)).cell? ⟨q, i, none⟩ = some (.pointer (some ⟨b i, 0, none⟩)) ∧ (W.alloc (.cells #[.int .i64 14, .int .i64 which, .int .u16 at_, .int .u16 x, .int .u16 y, .int .u16 cc, .int .i64 n] 76)).cell? ⟨q, 2 + i, none⟩ = some (.pointer (some ⟨c i, 0, none⟩))) := fun i hi => HD.out.pair.slots hi
  clear h
  obtain ⟨i, hi, hw⟩ : ∃ i : Nat, i < 2 ∧ (which.tmod 2 + 2) % 2 = (i : Int) := ⟨((which.tmod 2 + 2) % 2).toNat, by have := which_cases which; omega, by have := which_cases which; omega⟩
  have HW := Lib.hid hw
  have wl : -1 ≤ which.tmod 2 := by have := which_cases which; omega
  have wu : which.tmod 2 ≤ 1 := by have := which_cases which; omega
  clear hw
  go_enter Try.func34, Try.ntmps34
  go_upto_region 2 with (fail)
  rw [HW.out]
  have i0 : (0 : Int) ≤ (i : Int) := by omega
  have i2 : (i : Int) < 2 := by omega
  obtain ⟨s1, s2⟩ := SL.out i hi
  go_quiet (fail)
  have HN := Lib.hid (HD.out.next (Quiet.below ⟨nq, rfl⟩))
  have HT := Lib.hid (HD.out.pair.tones i hi)
  clear s1 s2
  clear HD SL
  replace HN : Hid (PlayHead W ((W.alloc (.cells #[.int .i64 14, .int .i64 which, .int .u16 at_, .int .u16 x, .int .u16 y, .int .u16 cc, .int .i64 n] 76)).drewN nq) q base k M b c S T ⟨14, which, at_, x, y, cc, n⟩) := HN
  generalize (W.alloc (.cells #[.int .i64 14, .int .i64 which, .int .u16 at_, .int .u16 x, .int .u16 y, .int .u16 cc, .int .i64 n] 76)).drewN nq = wb at HN ⊢
  obtain ⟨t0, t1, t2, t3, t4, t5, t6⟩ := box7 HN.out.box
  dsimp only at t0 t1 t2 t3 t4 t5 t6
  clear t1 t2 t3 t4 t5 t6
  obtain ⟨l, hn⟩ := (HN.out.pair.ref i hi).nums
  have NL := Lib.hid hn
  have hok := (HN.out.pair.mem i hi).isOk
  have hch := HN.out.pair.ch i hi
  obtain ⟨I, hI⟩ : ∃ I, I = memImg (M i) l := ⟨_, rfl⟩
  have IE := Lib.hid hI
  have lenI : Hid (I.banks.length = l.length) := by rw [hI]; exact memImg_len _ _
  have len16 := NL.out.len
  have ramI : Hid (I.ram.length = 16384) := by rw [hI]; exact bytesOf_length (M i).ram 16384
  have scrI : Hid (I.scr.length = 3072) := by rw [hI]; exact bytesOf_length (M i).scr 3072
  have okI : Hid (I.Ok) := by rw [hI]; exact memImg_good hok hn
  have smI : Hid (Small I.banks) := by rw [hI]; exact memImg_small hn
  have imI : Hid (ImgOk I) := by rw [hI]; exact memImg_ok hn hch
  have C3 : Hid (∀ W', Below wb.heap.size wb W' → Calls Try.prog 35 #[.pointer (some ⟨c i, 0, none⟩)] W' fun e w' => ∃ (a1 : Option Addr) (n1 c1 br bs : Nat), e = .returned (.agg #[.slice a1 n1 c1, .slice (some ⟨br, 0, none⟩) 16384 16384, .slice (some ⟨bs, 0, none⟩) 3072 3072, .int .u8 I.chosen, .int .u8 I.pad, .int .u16 I.pitch, .int .u8 I.volume, .int .u16 I.time]) ∧
      Hid (∃ bx dv, ImgIn w' I (.slice a1 n1 c1) (.slice (some ⟨br, 0, none⟩) 16384 16384) (.slice (some ⟨bs, 0, none⟩) 3072 3072) dv ∧ RefBody w' (M i) l bx (.slice a1 n1 c1) br bs) ∧ Hid (Below W'.heap.size W' w')) := fun W' hb => by
    refine (refImage_img ((HN.out.next hb).pair.ref i hi) (by have := HT.out; omega) hn).mono ?_
    rintro e w' ⟨bx, bv, br, bs, rfl, h1, h2, h3⟩
    rw [← hI] at h2 ⊢
    obtain ⟨⟨a1, c1, rfl⟩, _, _⟩ := h2.slices
    exact ⟨a1, _, c1, br, bs, rfl, ⟨bx, _, h2, h1⟩, h3⟩
  have C6 : Hid (∀ (W' : World) (v1 v2 v3 : Value) (dv : Nat → Value), ImgIn W' I v1 v2 v3 dv → Calls Try.prog 18 #[.agg #[v1, v2, v3, .int .u8 I.chosen, .int .u8 I.pad, .int .u16 I.pitch, .int .u8 I.volume, .int .u16 I.time]] W' fun e w' => ∃ (a1 a2 a3 : Option Addr) (n1 c1 n2 c2 n3 c3 : Nat), e = .returned (.agg #[.slice a1 n1 c1, .slice a2 n2 c2, .slice a3 n3 c3, .int .u8 I.chosen, .int .u8 I.pad, .int .u16 I.pitch, .int .u8 I.volume, .int .u16 I.time]) ∧
      Hid (∃ du, ImgIn w' I (.slice a1 n1 c1) (.slice a2 n2 c2) (.slice a3 n3 c3) du ∧ Handed W' w' l.length du (.slice a2 n2 c2) (.slice a3 n3 c3)) ∧ Hid (Below W'.heap.size W' w')) := fun W' v1 v2 v3 dv h => by
    refine (back_apart W' I v1 v2 v3 dv h smI.out (by have := ramI.out; omega) (by have := scrI.out; omega) okI.out).mono ?_
    rintro e w' ⟨bv, r, s, du, rfl, h1, h2, h3⟩
    obtain ⟨⟨a1, c1, rfl⟩, ⟨a2, c2, rfl⟩, ⟨a3, c3, rfl⟩⟩ := h1.slices
    exact ⟨a1, a2, a3, _, c1, _, c2, _, c3, rfl, ⟨du, h1, lenI.out ▸ h3⟩, h2⟩
  have C7 : Hid (∀ (W' : World) (v1 v2 v3 : Value) (dv : Nat → Value), ImgIn W' I v1 v2 v3 dv → Calls Try.prog 19 #[.agg #[v1, v2, v3, .int .u8 I.chosen, .int .u8 I.pad, .int .u16 I.pitch, .int .u8 I.volume, .int .u16 I.time]] W' fun e w' => ∃ b', e = .returned (.tuple #[.pointer (some ⟨b', 0, none⟩), .int .i64 0]) ∧ Hid (MemNew W' w' b' (M i).fresh) ∧ Hid (Below W'.heap.size W' w')) := fun W' v1 v2 v3 dv h => by
    refine (restore_any W' I v1 v2 v3 dv h (by have := lenI.out; omega) okI.out).mono ?_
    rintro e w' ⟨h1, ⟨_, q', S', rfl, h2, h3⟩ | ⟨h2, _⟩⟩
    · rw [hI] at h2
      have h4 := h2.ofImg hn hch hok
      exact ⟨q', rfl, ⟨S', h4, fun x hx => ⟨h3 x hx, h4.lt x hx⟩⟩, h1⟩
    · exact absurd imI.out h2
  have C8 : Hid (∀ (W' : World) (a1 : Option Addr) (n1 c1 br bs : Nat) (dv : Nat → Value) (bx : Nat → Nat), ImgIn W' I (.slice a1 n1 c1) (.slice (some ⟨br, 0, none⟩) 16384 16384) (.slice (some ⟨bs, 0, none⟩) 3072 3072) dv → RefBody W' (M i) l bx (.slice a1 n1 c1) br bs →
      Calls Try.prog 17 #[.agg #[.slice a1 n1 c1, .slice (some ⟨br, 0, none⟩) 16384 16384, .slice (some ⟨bs, 0, none⟩) 3072 3072, .int .u8 I.chosen, .int .u8 I.pad, .int .u16 I.pitch, .int .u8 I.volume, .int .u16 I.time]] W' fun e w' => ∃ c', e = .returned (.tuple #[.pointer (some ⟨c', 0, none⟩), .int .i64 0]) ∧ Hid (RefNew W' w' c' (M i).fresh) ∧ Hid (Below W'.heap.size W' w')) := fun W' a1 n1 c1 br bs dv bx h hB => by
    refine (refRestore_rep W' I (M i) _ _ _ dv h (by have := lenI.out; omega) (fun Wz qz hbz hqz => (hB.stays hbz).rep (by rw [hqz, hI]; rfl))).mono ?_
    rintro e w' ⟨h1, ⟨_, q', S', rfl, h2, h3⟩ | ⟨h2, _⟩⟩
    · exact ⟨q', rfl, ⟨S', h2, fun x hx => ⟨h3 x hx, h2.lt x hx⟩⟩, h1⟩
    · exact absurd imI.out h2
  clear hn hI hok hch
  have hi01 : i = 0 ∨ i = 1 := by omega
  rcases hi01 with rfl | rfl
  · have e0 : ((0 : Nat) : Int) = 0 := rfl
    rw [e0]
    have wr : IntKind.i64.wrap 1 = 1 := by decide
    go_wp2_with (first
      | (go_at_call 35; refine (C3.out wb (Below.refl _ _)).mono ?_; rintro e w1 ⟨ra, rn, rc, rbr, rbs, rfl, G1, B1⟩; obtain ⟨rbx, rdv, g1, _⟩ := G1.out; have HI1 := Lib.hid g1; clear g1)
      | (go_at_call 18; refine (C6.out w1 _ _ _ _ HI1.out).mono ?_; rintro e w2 ⟨a1, a2, a3, n1, c1, n2, c2, n3, c3, rfl, G2, B2⟩; obtain ⟨du2, g2, h2⟩ := G2.out; have BX := Lib.hid ((Below.refl w2.heap.size w2).alloc (Nat.le_refl _) (.cells #[.slice a1 n1 c1, .slice a2 n2 c2, .slice a3 n3 c3, .int .u8 I.chosen, .int .u8 I.pad, .int .u16 I.pitch, .int .u8 I.volume, .int .u16 I.time] 49)); have HI2 := Lib.hid (g2.below BX.out); have GI2 := Lib.hid g2; have HH2 := Lib.hid h2; clear g2 h2)
      | (go_at_call 19; refine (C7.out (w2.alloc (.cells #[.slice a1 n1 c1, .slice a2 n2 c2, .slice a3 n3 c3, .int .u8 I.chosen, .int .u8 I.pad, .int .u16 I.pitch, .int .u8 I.volume, .int .u16 I.time] 49)) _ _ _ _ HI2.out).mono ?_; rintro e w3 ⟨b3, rfl, M3, B3⟩; have BB3 := Lib.hid (B1.out.trans ((B2.out.mono B1.out.size).trans ((BX.out.mono (by have := B1.out.size; have := B2.out.size; omega)).trans (B3.out.mono (by have := B1.out.size; have := B2.out.size; have := BX.out.size; omega))))))
      | (go_at_call 35; refine (C3.out w3 BB3.out).mono ?_; rintro e w4 ⟨sa, sn, sc, sbr, sbs, rfl, G4, B4⟩; obtain ⟨sbx, sdv, g4, h4⟩ := G4.out; have HI4 := Lib.hid g4; have HB4 := Lib.hid h4; clear g4 h4)
      | (go_at_call 17; refine (C8.out w4 _ _ _ _ _ _ _ HI4.out HB4.out).mono ?_; rintro e w5 ⟨c5, rfl, M5, B5⟩; have BB5 := Lib.hid (BB3.out.trans ((B4.out.mono BB3.out.size).trans (B5.out.mono (by have := BB3.out.size; have := B4.out.size; omega)))); obtain ⟨p0, p1, p2, p3, pf⟩ := pair_cells (HN.out.next BB5.out).pair.obj; have pf0 := pf 1; have pf2 := pf (2 + 1); clear pf; simp only [ptr] at p0 p1 p2 p3;
          have ZZ := Lib.hid (rest_mid HN.out (j := 1) (by omega) (b' := b3) (c' := c5) B1.out B2.out BX.out B3.out B4.out B5.out (heap_alloc_at w2 _) GI2.out HH2.out); obtain ⟨⟨z0, z1, z2, z3, z4, z5, z6, z7, _⟩, ZI, ZH⟩ := ZZ.out; simp only [ptr] at z0 z1 z2 z3 z4 z5 z6 z7 ZI ZH; have SI := Lib.hid ZI; have SH := Lib.hid ZH; clear ZI ZH ZZ)
      | (go_at_call 54; refine (spoil_any _ I.banks _ _ _ _ I.chosen I.pad I.pitch I.volume I.time SI.out ⟨⟨_, _, _, rfl⟩, ⟨_, _, _, rfl⟩⟩ w1 w2.heap.size (lenI.out ▸ SH.out) (by have := lenI.out; omega)).mono ?_; rintro e w7 ⟨rfl, hu⟩; have FIN := Lib.hid (HN.out.restFin (j := 1) (by omega) (b' := b3) (c' := c5) (M' := (M 0).fresh) B1.out B2.out BX.out B3.out B4.out B5.out M3.out M5.out hu (Nat.zero_le _) (HN.out.pair.ch 0 (by omega))); clear hu))
    go_ret
    exact FIN.out
  · have e0 : ((1 : Nat) : Int) = 1 := rfl
    rw [e0]
    have wr : IntKind.i64.wrap 0 = 0 := by decide
    go_wp2_with (first
      | (go_at_call 35; refine (C3.out wb (Below.refl _ _)).mono ?_; rintro e w1 ⟨ra, rn, rc, rbr, rbs, rfl, G1, B1⟩; obtain ⟨rbx, rdv, g1, _⟩ := G1.out; have HI1 := Lib.hid g1; clear g1)
      | (go_at_call 18; refine (C6.out w1 _ _ _ _ HI1.out).mono ?_; rintro e w2 ⟨a1, a2, a3, n1, c1, n2, c2, n3, c3, rfl, G2, B2⟩; obtain ⟨du2, g2, h2⟩ := G2.out; have BX := Lib.hid ((Below.refl w2.heap.size w2).alloc (Nat.le_refl _) (.cells #[.slice a1 n1 c1, .slice a2 n2 c2, .slice a3 n3 c3, .int .u8 I.chosen, .int .u8 I.pad, .int .u16 I.pitch, .int .u8 I.volume, .int .u16 I.time] 49)); have HI2 := Lib.hid (g2.below BX.out); have GI2 := Lib.hid g2; have HH2 := Lib.hid h2; clear g2 h2)
      | (go_at_call 19; refine (C7.out (w2.alloc (.cells #[.slice a1 n1 c1, .slice a2 n2 c2, .slice a3 n3 c3, .int .u8 I.chosen, .int .u8 I.pad, .int .u16 I.pitch, .int .u8 I.volume, .int .u16 I.time] 49)) _ _ _ _ HI2.out).mono ?_; rintro e w3 ⟨b3, rfl, M3, B3⟩; have BB3 := Lib.hid (B1.out.trans ((B2.out.mono B1.out.size).trans ((BX.out.mono (by have := B1.out.size; have := B2.out.size; omega)).trans (B3.out.mono (by have := B1.out.size; have := B2.out.size; have := BX.out.size; omega))))))
      | (go_at_call 35; refine (C3.out w3 BB3.out).mono ?_; rintro e w4 ⟨sa, sn, sc, sbr, sbs, rfl, G4, B4⟩; obtain ⟨sbx, sdv, g4, h4⟩ := G4.out; have HI4 := Lib.hid g4; have HB4 := Lib.hid h4; clear g4 h4)
      | (go_at_call 17; refine (C8.out w4 _ _ _ _ _ _ _ HI4.out HB4.out).mono ?_; rintro e w5 ⟨c5, rfl, M5, B5⟩; have BB5 := Lib.hid (BB3.out.trans ((B4.out.mono BB3.out.size).trans (B5.out.mono (by have := BB3.out.size; have := B4.out.size; omega)))); obtain ⟨p0, p1, p2, p3, pf⟩ := pair_cells (HN.out.next BB5.out).pair.obj; have pf0 := pf 0; have pf2 := pf (2 + 0); clear pf; simp only [ptr] at p0 p1 p2 p3;
          have ZZ := Lib.hid (rest_mid HN.out (j := 0) (by omega) (b' := b3) (c' := c5) B1.out B2.out BX.out B3.out B4.out B5.out (heap_alloc_at w2 _) GI2.out HH2.out); obtain ⟨⟨z0, z1, z2, z3, z4, z5, z6, z7, _⟩, ZI, ZH⟩ := ZZ.out; simp only [ptr] at z0 z1 z2 z3 z4 z5 z6 z7 ZI ZH; have SI := Lib.hid ZI; have SH := Lib.hid ZH; clear ZI ZH ZZ)
      | (go_at_call 54; refine (spoil_any _ I.banks _ _ _ _ I.chosen I.pad I.pitch I.volume I.time SI.out ⟨⟨_, _, _, rfl⟩, ⟨_, _, _, rfl⟩⟩ w1 w2.heap.size (lenI.out ▸ SH.out) (by have := lenI.out; omega)).mono ?_; rintro e w7 ⟨rfl, hu⟩; have FIN := Lib.hid (HN.out.restFin (j := 0) (by omega) (b' := b3) (c' := c5) (M' := (M 1).fresh) B1.out B2.out BX.out B3.out B4.out B5.out M3.out M5.out hu (Nat.zero_le _) (HN.out.pair.ch 1 (by omega))); clear hu))
    go_ret
    exact FIN.out
end Go.Proofs.Ytabeljpnmmfpgaa
