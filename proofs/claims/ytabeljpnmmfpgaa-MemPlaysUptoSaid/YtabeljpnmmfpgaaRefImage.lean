/-
  (*ref.Memory).Image: what it tells.
-/
import Derived.Test.YtabeljpnmmfpgaaRefCopy
import Derived.BigRegion
namespace Go.Proofs.Ytabeljpnmmfpgaa
open Go.RowKit Go.MapKept
set_option linter.unusedVariables false
set_option linter.unusedSimpArgs false

/-- The image of a memory whose banks have these numbers. -/
def memImg (M : Mm) (l : List Int) : Img :=
  { banks := l.map fun n => (n, bytesOf ((M.bank n).getD (fun _ => 0)) 16384), ram := bytesOf M.ram 16384, scr := bytesOf M.scr 3072, chosen := M.chosen, pad := M.pad, pitch := M.pitch, volume := M.volume, time := M.time }

theorem memImg_at (M : Mm) (l : List Int) (i : Nat) (hi : i < l.length) : (memImg M l).banks.getD i (0, []) = (l.getD i 0, bytesOf ((M.bank (l.getD i 0)).getD (fun _ => 0)) 16384) := by
  simp [memImg, List.getD_eq_getElem?_getD, List.getElem?_map, List.getElem?_eq_getElem hi]

/-- What the document's memory holds is its image. -/
theorem RefAt.img {w : World} {b : Nat} {M : Mm} {S : Nat → Prop} {l : List Int} {bx : Nat → Nat} {bv : Value} {br bs : Nat} {tv : Value} (H : RefAt w b M S l bx bv br bs tv) :
    ImgIn w (memImg M l) bv (.slice (some ⟨br, 0, none⟩) 16384 16384) (.slice (some ⟨bs, 0, none⟩) 3072 3072) (fun i => .slice (some ⟨bx i, 0, none⟩) 16384 16384) := by
  have hlen : (memImg M l).banks.length = l.length := List.length_map _
  have k1 : BytesIn w (.slice (some ⟨br, 0, none⟩) 16384 16384) (bytesOf M.ram 16384) := H.ram.bytes
  have k2 : BytesIn w (.slice (some ⟨bs, 0, none⟩) 3072 3072) (bytesOf M.scr 3072) := H.scr.bytes
  refine ⟨⟨?_, fun i hi => ?_, fun i hi => ?_⟩, (by unfold memImg; dsimp only; exact k1), (by unfold memImg; dsimp only; exact k2)⟩
  · rcases H.rowAt with ⟨e, rfl⟩ | ⟨g, c, rfl, hr⟩
    · subst e
      exact ⟨_, _, rfl, fun h => absurd h (Nat.lt_irrefl 0)⟩
    · refine ⟨_, _, by rw [hlen], fun _ => ⟨g, 0, rfl, fun i hi => ?_⟩⟩
      rw [hlen] at hi
      obtain ⟨r1, r2⟩ := hr i hi
      rw [memImg_at M l i hi, Nat.zero_add]
      exact ⟨r1, r2⟩
  · rw [hlen] at hi
    obtain ⟨g, g1, g2⟩ := H.bank i hi
    have k : BytesIn w (.slice (some ⟨bx i, 0, none⟩) 16384 16384) (bytesOf g 16384) := g2.bytes
    rw [memImg_at M l i hi, g1]
    simp only [Option.getD_some]
    exact k
  · rw [hlen] at hi
    obtain ⟨g, g1, g2⟩ := H.bank i hi
    have k : IsBytes (bytesOf g 16384) := bytesOf_isB _ _ (H.ok.bank _ _ g1)
    rw [memImg_at M l i hi, g1]
    simp only [Option.getD_some]
    exact k

theorem RefAt.stays {w w' : World} {b : Nat} {M : Mm} {S : Nat → Prop} {l : List Int} {bx : Nat → Nat} {bv : Value} {br bs : Nat} {tv : Value} (H : RefAt w b M S l bx bv br bs tv) (hs : ∀ i, S i → w'.heap[i]? = w.heap[i]?) : RefAt w' b M S l bx bv br bs tv := by
  refine { H with obj := (hs b H.sb).trans H.obj, ram := H.ram.keep (hs br H.sr), scr := H.scr.keep (hs bs H.ss), row := ownsRow_heap H.row (fun k hk => hs k (H.sv k hk)), bank := ?_, tones := ownsRow_heap H.tones (fun k hk => hs k (H.st k hk)), lt := ?_ }
  · intro i hi
    obtain ⟨g, h1, h2⟩ := H.bank i hi
    exact ⟨g, h1, h2.keep (hs _ (H.sx i hi))⟩
  · intro i hi
    have := H.lt i hi
    have h2 := hs i hi
    rw [Array.getElem?_eq_getElem this] at h2
    exact (Array.getElem?_eq_some_iff.1 h2).1

/-- What an image of the document's memory holds in the heap: all of RefAt but the object and the tones. -/
structure RefBody (w : World) (M : Mm) (l : List Int) (bx : Nat → Nat) (bv : Value) (br bs : Nat) : Prop where
  ok : M.Ok
  ram : Buf w br 16384 M.ram
  scr : Buf w bs 3072 M.scr
  asc : l.Pairwise (fun x y => x < y)
  has : ∀ n, (M.bank n).isSome = true ↔ n ∈ l
  small : ∀ n ∈ l, 0 ≤ n ∧ n < 16
  row : w.ownsRow 0 37 2 bv l.length (rowCells l bx l.length)
  bank : ∀ i, i < l.length → ∃ g, M.bank (l.getD i 0) = some g ∧ Buf w (bx i) 16384 g
  inj : ∀ i j, i < l.length → j < l.length → bx i = bx j → i = j
  nrs : br ≠ bs
  nrx : ∀ i, i < l.length → bx i ≠ br ∧ bx i ≠ bs
theorem RefAt.body {w : World} {b : Nat} {M : Mm} {S : Nat → Prop} {l : List Int} {bx : Nat → Nat} {bv : Value} {br bs : Nat} {tv : Value} (H : RefAt w b M S l bx bv br bs tv) : RefBody w M l bx bv br bs :=
  ⟨H.ok, H.ram, H.scr, H.asc, H.has, H.small, H.row, H.bank, H.inj, H.nrs, H.nrx⟩

/-- What Image hands back: the record's image, its banks ascending. -/
def RefImgPost (w : World) (M : Mm) (e : Ending) (w' : World) : Prop :=
  ∃ l bx bv br bs, e = .returned ((memImg M l).val bv (.slice (some ⟨br, 0, none⟩) 16384 16384) (.slice (some ⟨bs, 0, none⟩) 3072 3072)) ∧ RefBody w' M l bx bv br bs ∧ ImgIn w' (memImg M l) bv (.slice (some ⟨br, 0, none⟩) 16384 16384) (.slice (some ⟨bs, 0, none⟩) 3072 3072) (fun i => .slice (some ⟨bx i, 0, none⟩) 16384 16384) ∧ Below w.heap.size w w'

set_option maxRecDepth 100000 in
set_option maxHeartbeats 4000000 in
theorem refImage_rep {w : World} {b : Nat} {M : Mm} {S : Nat → Prop} (h : RefRep w b M S) (hl : M.tones.length < 1000000000) :
    Calls Try.prog 35 #[.pointer (some ⟨b, 0, none⟩)] w (RefImgPost w M) := by
  obtain ⟨W0, hW0⟩ : ∃ W0, W0 = w.alloc (.cells #[.slice none 0 0, .slice none 0 0, .slice none 0 0, .int .u8 0, .int .u8 0, .int .u16 0, .int .u8 0, .int .u16 0] 45) := ⟨_, rfl⟩
  have hx : W0.heap[w.heap.size]? = some (.cells #[.slice none 0 0, .slice none 0 0, .slice none 0 0, .int .u8 0, .int .u8 0, .int .u16 0, .int .u8 0, .int .u16 0] 45 (0, 0)) := by rw [hW0]; exact heap_alloc_at w _
  have hb0 : Below w.heap.size w W0 := by rw [hW0]; exact (Below.refl _ _).alloc (Nat.le_refl _) _
  have cp := Lib.hid (refCopy_rep (h.below hb0) hl)
  have tk : Hid (w.alloc (.cells #[.slice none 0 0, .slice none 0 0, .slice none 0 0, .int .u8 0, .int .u8 0, .int .u16 0, .int .u8 0, .int .u16 0] 45) = W0) := hW0.symm
  have HX := Lib.hid hx; have HB0 := Lib.hid hb0
  clear hW0 hx hb0 h
  go_enter Try.func35, Try.ntmps35
  go_wp2_with (fail)
  rw [tk.out]
  refine cp.out.mono ?_
  rintro e w1 ⟨rfl, hb1, S', hr', hS'⟩
  have sz0 : Hid (W0.heap.size = w.heap.size + 1) := by
    show W0.heap.size = _
    rw [← tk.out]; simp
  have hx1 : w1.heap[w.heap.size]? = some (.cells #[.slice none 0 0, .slice none 0 0, .slice none 0 0, .int .u8 0, .int .u8 0, .int .u16 0, .int .u8 0, .int .u16 0] 45 (0, 0)) := (hb1.block _ (by rw [sz0.out]; omega)).trans HX.out
  obtain ⟨l, bx, bv, br, bs, tv, H⟩ := hr'
  obtain ⟨va, vn, vc, rfl⟩ := slice_of H.row
  obtain ⟨m0, m1, m2, m3, m4, m5, m6, m7, m8, m9, mf⟩ := cells10 H.obj
  obtain ⟨z0, z1, z2, z3, z4, z5, z6, z7, zf⟩ := cells8 hx1
  obtain ⟨q, hq⟩ : ∃ q, q = W0.heap.size := ⟨_, rfl⟩
  rw [← hq] at m0 m1 m2 m3 m4 m5 m6 m7 m8 m9 mf
  have HH := Lib.hid H
  have HQ := Lib.hid hq
  have HB1 := Lib.hid hb1
  have HS := Lib.hid hS'
  have hne : Hid (q ≠ w.heap.size) := by rw [hq, sz0.out]; show _ ≠ _; omega
  rw [← hq]
  obtain ⟨ch, hche⟩ : ∃ x, x = M.chosen := ⟨_, rfl⟩
  obtain ⟨pd, hpde⟩ : ∃ x, x = M.pad := ⟨_, rfl⟩
  obtain ⟨pi, hpie⟩ : ∃ x, x = M.pitch := ⟨_, rfl⟩
  obtain ⟨vo, hvoe⟩ : ∃ x, x = M.volume := ⟨_, rfl⟩
  obtain ⟨ti, htie⟩ : ∃ x, x = M.time := ⟨_, rfl⟩
  rw [← hche] at m3; rw [← hpde] at m4; rw [← hpie] at m5; rw [← hvoe] at m6; rw [← htie] at m7
  have NM := Lib.hid (And.intro hche (And.intro hpde (And.intro hpie (And.intro hvoe htie))))
  have HX1 := Lib.hid hx1
  have SZ := Lib.hid sz0.out
  clear H hq hb1 hS' hx1 hche hpde hpie hvoe htie tk cp HX sz0 m8 m9
  have T : Hid (w1.drew.cell? ⟨q, 0, none⟩ = some (.slice va vn vc) ∧ w1.drew.cell? ⟨q, 1, none⟩ = some (.slice (some ⟨br, 0, none⟩) 16384 16384) ∧ w1.drew.cell? ⟨q, 2, none⟩ = some (.slice (some ⟨bs, 0, none⟩) 3072 3072) ∧ w1.drew.cell? ⟨q, 3, none⟩ = some (.int .u8 ch) ∧ w1.drew.cell? ⟨q, 4, none⟩ = some (.int .u8 pd) ∧ w1.drew.cell? ⟨q, 5, none⟩ = some (.int .u16 pi) ∧ w1.drew.cell? ⟨q, 6, none⟩ = some (.int .u8 vo) ∧ w1.drew.cell? ⟨q, 7, none⟩ = some (.int .u16 ti)) := ⟨m0, m1, m2, m3, m4, m5, m6, m7⟩
  have TX : Hid (∀ v0 v1 v2 v3 v4 v5 v6 v7, ((((((((w1.setCell ⟨w.heap.size, 0, none⟩ v0).setCell ⟨w.heap.size, 1, none⟩ v1).setCell ⟨w.heap.size, 2, none⟩ v2).setCell ⟨w.heap.size, 3, none⟩ v3).setCell ⟨w.heap.size, 4, none⟩ v4).setCell ⟨w.heap.size, 5, none⟩ v5).setCell ⟨w.heap.size, 6, none⟩ v6).setCell ⟨w.heap.size, 7, none⟩ v7).drew.cell? ⟨q, 0, none⟩ = some (.slice va vn vc) ∧ ((((((((w1.setCell ⟨w.heap.size, 0, none⟩ v0).setCell ⟨w.heap.size, 1, none⟩ v1).setCell ⟨w.heap.size, 2, none⟩ v2).setCell ⟨w.heap.size, 3, none⟩ v3).setCell ⟨w.heap.size, 4, none⟩ v4).setCell ⟨w.heap.size, 5, none⟩ v5).setCell ⟨w.heap.size, 6, none⟩ v6).setCell ⟨w.heap.size, 7, none⟩ v7).drew.cell? ⟨q, 1, none⟩ = some (.slice (some ⟨br, 0, none⟩) 16384 16384) ∧ ((((((((w1.setCell ⟨w.heap.size, 0, none⟩ v0).setCell ⟨w.heap.size, 1, none⟩ v1).setCell ⟨w.heap.size, 2, none⟩ v2).setCell ⟨w.heap.size, 3, none⟩ v3).setCell ⟨w.heap.size, 4, none⟩ v4).setCell ⟨w.heap.size, 5, none⟩ v5).setCell ⟨w.heap.size, 6, none⟩ v6).setCell ⟨w.heap.size, 7, none⟩ v7).drew.cell? ⟨q, 2, none⟩ = some (.slice (some ⟨bs, 0, none⟩) 3072 3072) ∧ ((((((((w1.setCell ⟨w.heap.size, 0, none⟩ v0).setCell ⟨w.heap.size, 1, none⟩ v1).setCell ⟨w.heap.size, 2, none⟩ v2).setCell ⟨w.heap.size, 3, none⟩ v3).setCell ⟨w.heap.size, 4, none⟩ v4).setCell ⟨w.heap.size, 5, none⟩ v5).setCell ⟨w.heap.size, 6, none⟩ v6).setCell ⟨w.heap.size, 7, none⟩ v7).drew.cell? ⟨q, 3, none⟩ = some (.int .u8 ch) ∧ ((((((((w1.setCell ⟨w.heap.size, 0, none⟩ v0).setCell ⟨w.heap.size, 1, none⟩ v1).setCell ⟨w.heap.size, 2, none⟩ v2).setCell ⟨w.heap.size, 3, none⟩ v3).setCell ⟨w.heap.size, 4, none⟩ v4).setCell ⟨w.heap.size, 5, none⟩ v5).setCell ⟨w.heap.size, 6, none⟩ v6).setCell ⟨w.heap.size, 7, none⟩ v7).drew.cell? ⟨q, 4, none⟩ = some (.int .u8 pd) ∧ ((((((((w1.setCell ⟨w.heap.size, 0, none⟩ v0).setCell ⟨w.heap.size, 1, none⟩ v1).setCell ⟨w.heap.size, 2, none⟩ v2).setCell ⟨w.heap.size, 3, none⟩ v3).setCell ⟨w.heap.size, 4, none⟩ v4).setCell ⟨w.heap.size, 5, none⟩ v5).setCell ⟨w.heap.size, 6, none⟩ v6).setCell ⟨w.heap.size, 7, none⟩ v7).drew.cell? ⟨q, 5, none⟩ = some (.int .u16 pi) ∧ ((((((((w1.setCell ⟨w.heap.size, 0, none⟩ v0).setCell ⟨w.heap.size, 1, none⟩ v1).setCell ⟨w.heap.size, 2, none⟩ v2).setCell ⟨w.heap.size, 3, none⟩ v3).setCell ⟨w.heap.size, 4, none⟩ v4).setCell ⟨w.heap.size, 5, none⟩ v5).setCell ⟨w.heap.size, 6, none⟩ v6).setCell ⟨w.heap.size, 7, none⟩ v7).drew.cell? ⟨q, 6, none⟩ = some (.int .u8 vo) ∧ ((((((((w1.setCell ⟨w.heap.size, 0, none⟩ v0).setCell ⟨w.heap.size, 1, none⟩ v1).setCell ⟨w.heap.size, 2, none⟩ v2).setCell ⟨w.heap.size, 3, none⟩ v3).setCell ⟨w.heap.size, 4, none⟩ v4).setCell ⟨w.heap.size, 5, none⟩ v5).setCell ⟨w.heap.size, 6, none⟩ v6).setCell ⟨w.heap.size, 7, none⟩ v7).drew.cell? ⟨q, 7, none⟩ = some (.int .u16 ti)) := fun v0 v1 v2 v3 v4 v5 v6 v7 => by
    have hne' : w.heap.size ≠ q := fun e => hne.out e.symm
    refine ⟨?_, ?_, ?_, ?_, ?_, ?_, ?_, ?_⟩
    all_goals
      rw [World.cell?_drew]
      iterate 8 rw [World.cell?_setCell_other _ _ _ _ (by simp [hne'])]
      assumption
  have Z : Hid (∀ j, w1.frozen? ⟨w.heap.size, j, none⟩ = false) := zf
  go_wp2_with (fail)
  go_region_held3 (fun w' => w'.cell? ⟨q, 0, none⟩ = some (.slice va vn vc) ∧ w'.cell? ⟨q, 1, none⟩ = some (.slice (some ⟨br, 0, none⟩) 16384 16384) ∧ w'.cell? ⟨q, 2, none⟩ = some (.slice (some ⟨bs, 0, none⟩) 3072 3072) ∧ w'.cell? ⟨q, 3, none⟩ = some (.int .u8 ch) ∧ w'.cell? ⟨q, 4, none⟩ = some (.int .u8 pd) ∧ w'.cell? ⟨q, 5, none⟩ = some (.int .u16 pi) ∧ w'.cell? ⟨q, 6, none⟩ = some (.int .u8 vo) ∧ w'.cell? ⟨q, 7, none⟩ = some (.int .u16 ti))
    (first | with_reducible exact T.out | with_reducible exact (TX.out _ _ _ _ _ _ _ _))
    (fail)
  have ob := (heap_set_cell (heap_set_cell (heap_set_cell (heap_set_cell (heap_set_cell (heap_set_cell (heap_set_cell (heap_set_cell HX1.out 0 (.slice va vn vc)) 1 (.slice (some ⟨br, 0, none⟩) 16384 16384)) 2 (.slice (some ⟨bs, 0, none⟩) 3072 3072)) 3 (.int .u8 ch)) 4 (.int .u8 pd)) 5 (.int .u16 pi)) 6 (.int .u8 vo)) 7 (.int .u16 ti))
  simp only [List.setIfInBounds_toArray, List.set_cons_zero, List.set_cons_succ] at ob
  have hb2 : Below w.heap.size w w1 := HB0.out.trans (HB1.out.mono (by rw [SZ.out]; omega))
  have hbl := ((((((((hb2.setCell (p := ⟨w.heap.size, 0, none⟩) (by simp) (.slice va vn vc)).setCell (p := ⟨w.heap.size, 1, none⟩) (by simp) (.slice (some ⟨br, 0, none⟩) 16384 16384)).setCell (p := ⟨w.heap.size, 2, none⟩) (by simp) (.slice (some ⟨bs, 0, none⟩) 3072 3072)).setCell (p := ⟨w.heap.size, 3, none⟩) (by simp) (.int .u8 ch)).setCell (p := ⟨w.heap.size, 4, none⟩) (by simp) (.int .u8 pd)).setCell (p := ⟨w.heap.size, 5, none⟩) (by simp) (.int .u16 pi)).setCell (p := ⟨w.heap.size, 6, none⟩) (by simp) (.int .u8 vo)).setCell (p := ⟨w.heap.size, 7, none⟩) (by simp) (.int .u16 ti))
  obtain ⟨w4, hw4⟩ : ∃ w4, w4 = ((((((((w1.setCell ⟨w.heap.size, 0, none⟩ (.slice va vn vc)).setCell ⟨w.heap.size, 1, none⟩ (.slice (some ⟨br, 0, none⟩) 16384 16384)).setCell ⟨w.heap.size, 2, none⟩ (.slice (some ⟨bs, 0, none⟩) 3072 3072)).setCell ⟨w.heap.size, 3, none⟩ (.int .u8 ch)).setCell ⟨w.heap.size, 4, none⟩ (.int .u8 pd)).setCell ⟨w.heap.size, 5, none⟩ (.int .u16 pi)).setCell ⟨w.heap.size, 6, none⟩ (.int .u8 vo)).setCell ⟨w.heap.size, 7, none⟩ (.int .u16 ti)) := ⟨_, rfl⟩
  have hk : ∀ i, i ≠ w.heap.size → w4.heap[i]? = w1.heap[i]? := by
    intro i hne
    rw [hw4]
    iterate 8 rw [heap_set_far hne]
  rw [← hw4] at ob hbl ⊢
  have H4 : RefAt w4.drew q M S' l bx (.slice va vn vc) br bs tv := RefAt.stays (by rw [HQ.out]; exact HH.out) (fun i hi => hk i (by have := HS.out i hi; rw [SZ.out] at this; omega))
  have ob' : w4.drew.heap[w.heap.size]? = _ := ob
  obtain ⟨y0, y1, y2, y3, y4, y5, y6, y7, yf⟩ := cells8 ob'
  have FIN : Hid (RefImgPost w M (.returned (.agg #[.slice va vn vc, .slice (some ⟨br, 0, none⟩) 16384 16384, .slice (some ⟨bs, 0, none⟩) 3072 3072, .int .u8 ch, .int .u8 pd, .int .u16 pi, .int .u8 vo, .int .u16 ti])) w4.drew) := by
    obtain ⟨e1, e2, e3, e4, e5⟩ := NM.out
    exact ⟨l, bx, _, br, bs, by rw [e1, e2, e3, e4, e5]; rfl, H4.body, H4.img, hbl.drew⟩
  clear H4 hbl hk hw4 ob ob' T TX Z HH HS HB0 HB1 NM SZ HX1 HQ hne hb2
  go_wp2_with (fail)
  refine bodyPost_ret (v := (.agg #[.slice va vn vc, .slice (some ⟨br, 0, none⟩) 16384 16384, .slice (some ⟨bs, 0, none⟩) 3072 3072, .int .u8 ch, .int .u8 pd, .int .u16 pi, .int .u8 vo, .int .u16 ti])) (by simp [results, Try.results35, go_sem, y0, y1, y2, y3, y4, y5, y6, y7]) rfl ?_
  exact FIN.out
end Go.Proofs.Ytabeljpnmmfpgaa
