/-
  ref.Copy, ref.Restore: what they answer (a memory, or none and the error); the content is not told here.
-/
import Derived.Test.YtabeljpnmmfpgaaMemFull
import Derived.Test.YtabeljpnmmfpgaaMemBack
import Derived.Deep.RegionHeld3
import Derived.Deep.AppendLies
import Derived.Deep.DeepCutAuto
import Derived.Sort.AtCall
namespace Go.Proofs.Ytabeljpnmmfpgaa
open Go.RowKit Go.MapKept
set_option linter.unusedVariables false
set_option linter.unusedSimpArgs false

theorem cells10 {W : World} {b : Nat} {x0 x1 x2 x3 x4 x5 x6 x7 x8 x9 : Value} {t : TypeId} (h : W.heap[b]? = some (.cells #[x0, x1, x2, x3, x4, x5, x6, x7, x8, x9] t (0, 0))) :
    W.cell? ⟨b, 0, none⟩ = some x0 ∧ W.cell? ⟨b, 1, none⟩ = some x1 ∧ W.cell? ⟨b, 2, none⟩ = some x2 ∧ W.cell? ⟨b, 3, none⟩ = some x3 ∧ W.cell? ⟨b, 4, none⟩ = some x4 ∧ W.cell? ⟨b, 5, none⟩ = some x5 ∧ W.cell? ⟨b, 6, none⟩ = some x6 ∧ W.cell? ⟨b, 7, none⟩ = some x7 ∧ W.cell? ⟨b, 8, none⟩ = some x8 ∧ W.cell? ⟨b, 9, none⟩ = some x9 ∧ ∀ j, W.frozen? ⟨b, j, none⟩ = false := by
  refine ⟨?_, ?_, ?_, ?_, ?_, ?_, ?_, ?_, ?_, ?_, fun j => by simp [World.frozen?, h]⟩ <;> rw [cell_of h] <;> rfl

def refCells (bv rv sv : Value) (chosen pad pitch volume time cycle : Int) (tv : Value) : Array Value := #[bv, rv, sv, .int .u8 chosen, .int .u8 pad, .int .u16 pitch, .int .u8 volume, .int .u16 time, .int .i64 cycle, tv]

/-- The copy in the making: its first k banks are laid. -/
structure CpRel (w W : World) (k : Nat) (bv rv sv : Value) (chosen pad pitch volume time cycle : Int) (tv : Value) : Prop where
  below : Below w.heap.size w W
  obj : W.heap[w.heap.size]? = some (.cells (refCells bv rv sv chosen pad pitch volume time cycle tv) 80 (0, 0))
  row : ∃ xs, W.ownsRow (w.heap.size + 1) 37 2 bv k xs
theorem CpRel.next {w W W' : World} {k : Nat} {bv rv sv : Value} {chosen pad pitch volume time cycle : Int} {tv : Value} (h : CpRel w W k bv rv sv chosen pad pitch volume time cycle tv) (hb : Below W.heap.size W W') : CpRel w W' k bv rv sv chosen pad pitch volume time cycle tv := by
  obtain ⟨h1, h2, xs, h3⟩ := h
  exact ⟨h1.trans (hb.mono h1.size), (hb.block _ (Array.getElem?_eq_some_iff.1 h2).1).trans h2, xs, ownsRow_heap h3 (fun b hb' => hb.block _ (ownBlock_lt h3 hb'))⟩
theorem CpRel.lt {w W : World} {k : Nat} {bv rv sv : Value} {chosen pad pitch volume time cycle : Int} {tv : Value} (h : CpRel w W k bv rv sv chosen pad pitch volume time cycle tv) : w.heap.size < W.heap.size := (Array.getElem?_eq_some_iff.1 h.obj).1
theorem CpRel.start (w : World) (rv sv : Value) (chosen pad pitch volume time cycle : Int) (tv : Value) :
    CpRel w (w.alloc (.cells #[.slice none 0 0, rv, sv, .int .u8 chosen, .int .u8 pad, .int .u16 pitch, .int .u8 volume, .int .u16 time, .int .i64 cycle, tv] 80)) 0 (.slice none 0 0) rv sv chosen pad pitch volume time cycle tv :=
  ⟨(Below.refl _ _).alloc (Nat.le_refl _) _, heap_alloc_at w _, [], World.ownsRow_nil _ _ _ _⟩

/-- A round's copied bank is laid into the list, the list into the copy. -/
theorem CpRel.step {w W w3 : World} {k : Nat} {bv v' rv sv : Value} {chosen pad pitch volume time cycle : Int} {tv : Value} {xs : List Value} (h : CpRel w W k bv rv sv chosen pad pitch volume time cycle tv) (ho : W.ownsRow (w.heap.size + 1) 37 2 bv k xs)
    (h3 : W.grownBy w3 bv.ownBlock) {ys : List Value} (hv' : w3.ownsRow (w.heap.size + 1) 37 2 v' (k + 1) ys) :
    (w3.cell? ⟨w.heap.size, 0, none⟩ = some bv ∧ w3.frozen? ⟨w.heap.size, 0, none⟩ = false ∧ Below w.heap.size w w3) ∧ CpRel w (w3.setCell ⟨w.heap.size, 0, none⟩ v') (k + 1) v' rv sv chosen pad pitch volume time cycle tv := by
  have row : ∀ b, bv.ownBlock = some b → ∃ cs, W.heap[b]? = some (.cells cs 37 (0, 0)) := fun b hb => by
    rcases ho.2 with ⟨rfl, _⟩ | ⟨q, cap, cur, rfl, _, hh, _⟩
    · simp [Value.ownBlock] at hb
    · simp only [Value.ownBlock, Option.some.injEq] at hb
      subst hb; exact ⟨_, hh⟩
  have x3 : w3.heap[w.heap.size]? = some (.cells (refCells bv rv sv chosen pad pitch volume time cycle tv) 80 (0, 0)) := by
    rw [h3.block _ h.lt (fun e => ?_)]
    · exact h.obj
    · obtain ⟨cs', h4⟩ := row _ e.symm
      rw [h.obj] at h4
      exact cells_ne (by decide) (Option.some.inj h4)
  have hb3 : Below w.heap.size w w3 := h.below.grown h3 h.below.size (fun q hq => by have := (ho.lt q hq).1; omega)
  refine ⟨⟨(cells10 x3).1, (cells10 x3).2.2.2.2.2.2.2.2.2.2 0, hb3⟩, hb3.setCell (by simp) _, heap_set_cell x3 0 v', ys, ownsRow_heap hv' (fun b hb => heap_set_far (fun e => ?_))⟩
  subst e
  rcases hv'.2 with ⟨rfl, _⟩ | ⟨q, cap, cur, rfl, _, hh, _⟩
  · simp [Value.ownBlock] at hb
  · simp only [Value.ownBlock, Option.some.injEq] at hb
    subst hb
    rw [x3] at hh
    exact cells_ne (by decide) (Option.some.inj hh)

theorem CpRel.set1 {w W : World} {k : Nat} {bv rv sv : Value} {chosen pad pitch volume time cycle : Int} {tv : Value} (h : CpRel w W k bv rv sv chosen pad pitch volume time cycle tv) (v : Value) : CpRel w (W.setCell ⟨w.heap.size, 1, none⟩ v) k bv v sv chosen pad pitch volume time cycle tv := by
  obtain ⟨h1, h2, xs, h3⟩ := h
  refine ⟨h1.setCell (by simp) _, heap_set_cell h2 1 v, xs, ownsRow_heap h3 (fun b hb => heap_set_far (fun e => ?_))⟩
  have := (h3.lt b hb).1; omega
theorem CpRel.set2 {w W : World} {k : Nat} {bv rv sv : Value} {chosen pad pitch volume time cycle : Int} {tv : Value} (h : CpRel w W k bv rv sv chosen pad pitch volume time cycle tv) (v : Value) : CpRel w (W.setCell ⟨w.heap.size, 2, none⟩ v) k bv rv v chosen pad pitch volume time cycle tv := by
  obtain ⟨h1, h2, xs, h3⟩ := h
  refine ⟨h1.setCell (by simp) _, heap_set_cell h2 2 v, xs, ownsRow_heap h3 (fun b hb => heap_set_far (fun e => ?_))⟩
  have := (h3.lt b hb).1; omega

theorem CpRel.round {w wr w1 : World} {k : Nat} {bv rv sv : Value} {chosen pad pitch volume time cycle : Int} {tv : Value} {nm : Int} {dsl : Value} (h : CpRel w wr k bv rv sv chosen pad pitch volume time cycle tv)
    (hb : Below (wr.heap.size + 1) (wr.alloc (.cells #[.int .i64 nm, dsl] 37)).drew w1) (Y : Array Value) :
    ∃ xs, (w1.cell? ⟨w.heap.size, 0, none⟩ = some bv ∧ (w1.alloc (.cells Y 37)).cell? ⟨w.heap.size, 0, none⟩ = some bv) ∧
    (w1.cell? ⟨wr.heap.size, 0, none⟩ = some (.int .i64 nm) ∧ w1.cell? ⟨wr.heap.size, 1, none⟩ = some dsl) ∧
    ((w1.alloc (.cells Y 37)).cell? ⟨wr.heap.size, 0, none⟩ = some (.int .i64 nm) ∧ (w1.alloc (.cells Y 37)).cell? ⟨wr.heap.size, 1, none⟩ = some dsl) ∧
    (w1.alloc (.cells Y 37)).ownsRow (w.heap.size + 1) 37 2 bv k xs ∧ w.heap.size + 1 ≤ w1.heap.size ∧
    (∀ j u, Y.toList[j]? = some u → (w1.alloc (.cells Y 37)).cell? ((⟨w1.heap.size, 0, none⟩ : Addr).add j) = some u) ∧
    ∀ v' w3 ys, (w1.alloc (.cells Y 37)).grownBy w3 bv.ownBlock → w3.ownsRow (w.heap.size + 1) 37 2 v' (k + 1) ys →
      w3.cell? ⟨w.heap.size, 0, none⟩ = some bv ∧ w3.frozen? ⟨w.heap.size, 0, none⟩ = false ∧ (w3.cell? ⟨wr.heap.size, 0, none⟩ = some (.int .i64 nm) ∧ w3.cell? ⟨wr.heap.size, 1, none⟩ = some dsl) ∧
      ((w3.setCell ⟨w.heap.size, 0, none⟩ v').cell? ⟨wr.heap.size, 0, none⟩ = some (.int .i64 nm) ∧ (w3.setCell ⟨w.heap.size, 0, none⟩ v').cell? ⟨wr.heap.size, 1, none⟩ = some dsl) ∧
      CpRel w (w3.setCell ⟨w.heap.size, 0, none⟩ v') (k + 1) v' rv sv chosen pad pitch volume time cycle tv := by
  have hlt := h.lt
  have e0 : (wr.alloc (.cells #[.int .i64 nm, dsl] 37)).drew.heap.size = wr.heap.size + 1 := by show (wr.alloc _).heap.size = _; simp
  have h0 : CpRel w (wr.alloc (.cells #[.int .i64 nm, dsl] 37)).drew k bv rv sv chosen pad pitch volume time cycle tv := h.next (((Below.refl _ _).alloc (Nat.le_refl _) _).drew)
  have h1 : CpRel w w1 k bv rv sv chosen pad pitch volume time cycle tv := h0.next (by rw [e0]; exact hb)
  have h2 := h1.next ((Below.refl _ _).alloc (Nat.le_refl _) (.cells Y 37))
  have hsz1 : wr.heap.size + 1 ≤ w1.heap.size := by have := hb.size; omega
  have bb : w1.heap[wr.heap.size]? = some (.cells #[.int .i64 nm, dsl] 37 (0, 0)) := (hb.block _ (by omega)).trans (heap_alloc_at wr _)
  have bb2 : (w1.alloc (.cells Y 37)).heap[wr.heap.size]? = some (.cells #[.int .i64 nm, dsl] 37 (0, 0)) := heap_alloc_old bb
  have two : ∀ {W : World}, W.heap[wr.heap.size]? = some (.cells #[.int .i64 nm, dsl] 37 (0, 0)) → W.cell? ⟨wr.heap.size, 0, none⟩ = some (.int .i64 nm) ∧ W.cell? ⟨wr.heap.size, 1, none⟩ = some dsl := fun hW => ⟨by rw [cell_of hW]; rfl, by rw [cell_of hW]; rfl⟩
  obtain ⟨xs, ho⟩ := h.row
  have ho0 : (wr.alloc (.cells #[.int .i64 nm, dsl] 37)).drew.ownsRow (w.heap.size + 1) 37 2 bv k xs := ownsRow_heap ho (fun b hb' => Below.heap_alloc _ _ _ (ownBlock_lt ho hb'))
  have ho1 : w1.ownsRow (w.heap.size + 1) 37 2 bv k xs := ownsRow_heap ho0 (fun b hb' => hb.block _ (by have := ownBlock_lt ho0 hb'; omega))
  have ho2 : (w1.alloc (.cells Y 37)).ownsRow (w.heap.size + 1) 37 2 bv k xs := ownsRow_heap ho1 (fun b hb' => Below.heap_alloc _ _ _ (ownBlock_lt ho1 hb'))
  refine ⟨xs, ⟨(cells10 h1.obj).1, (cells10 h2.obj).1⟩, two bb, two bb2, ho2, by omega, fun j u hj' => ?_, fun v' w3 ys hg hv' => ?_⟩
  · rw [addr_add, Nat.zero_add, cell_of (heap_alloc_at w1 _)]
    simpa using hj'
  · obtain ⟨⟨q1, q2, q3⟩, q4⟩ := h2.step ho2 hg hv'
    have bb3 : w3.heap[wr.heap.size]? = some (.cells #[.int .i64 nm, dsl] 37 (0, 0)) := by
      rw [hg.block _ (by simp; omega) (fun e => ?_)]
      · exact bb2
      · have := ownBlock_lt ho e.symm; omega
    exact ⟨q1, q2, two bb3, two (by rw [heap_set_far (by omega)]; exact bb3), q4⟩

set_option maxRecDepth 100000 in
set_option maxHeartbeats 4000000 in
theorem refCopy_any (w : World) (b : Nat) (l : List (Int × List Int)) (dv : Nat → Value) (ram scr : List Int) (bv rv sv : Value) (chosen pad pitch volume time cycle : Int)
    (hm : w.heap[b]? = some (.cells (refCells bv rv sv chosen pad pitch volume time cycle (.slice none 0 0)) 80 (0, 0)))
    (h1 : BanksIn w bv l dv) (h2 : BytesIn w rv ram) (h3 : BytesIn w sv scr) (hlen : l.length ≤ 2000000) (hd : ∀ i, i < l.length → (l.getD i (0, [])).2.length ≤ 16384) (hr : ram.length ≤ 16384) (hs : scr.length ≤ 3072) :
    Calls Try.prog 33 #[.pointer (some ⟨b, 0, none⟩)] w fun e w' => e = .returned (.pointer (some ⟨w.heap.size, 0, none⟩)) ∧ Below w.heap.size w w' := by
  obtain ⟨i1, hj, hy0, hy1, hy2⟩ := info_parts infoBank
  obtain ⟨i0, hi, hz0, hz1, hz2⟩ := info_parts infoTone
  have hbw : b < w.heap.size := (Array.getElem?_eq_some_iff.1 hm).1
  have cm : ∀ W, Below w.heap.size w W → W.heap[b]? = some (.cells (refCells bv rv sv chosen pad pitch volume time cycle (.slice none 0 0)) 80 (0, 0)) := fun W hW => (hW.block b hbw).trans hm
  have start := Lib.hid (CpRel.start w rv sv chosen pad pitch volume time cycle (.slice none 0 0))
  have H1 := Lib.hid h1; have H2 := Lib.hid h2; have H3 := Lib.hid h3; have HD := Lib.hid hd; have CM := Lib.hid cm
  obtain ⟨A, cap, hbv, hrow⟩ := h1.row
  have HR := Lib.hid hrow
  obtain ⟨ra, rc, hrv, _⟩ := h2
  obtain ⟨sa, sc, hsv, _⟩ := h3
  subst hbv; subst hrv; subst hsv
  obtain ⟨m0, m1, m2, m3, m4, m5, m6, m7, m8, m9, mf⟩ := cells10 hm
  clear h1 hd cm hrow
  go_enter Try.func33, Try.ntmps33
  go_wp2_with (fail)
  go_loopw [15] (fun i wr => ∃ k : Nat, k ≤ l.length ∧ i = .int .i64 k ∧ ∃ bv, Hid (CpRel w wr k bv (.slice ra ram.length rc) (.slice sa scr.length sc) chosen pad pitch volume time cycle (.slice none 0 0))) (fun i _ => l.length - (intOf i).toNat)
  case atStart => exact ⟨0, Nat.zero_le _, rfl, _, start⟩
  case round =>
    obtain ⟨k, hk, rfl, bv, hrel⟩ := hrel
    obtain ⟨ba, bn, bc, rfl⟩ : ∃ a n c, bv = .slice a n c := by
      obtain ⟨xs, ho⟩ := hrel.out.row
      rcases ho.2 with ⟨rfl, _⟩ | ⟨q, cap, cur, rfl, _⟩
      · exact ⟨_, _, _, rfl⟩
      · exact ⟨_, _, _, rfl⟩
    by_cases hlt : k < l.length
    · obtain ⟨ab, ao, rfl, hcc⟩ := HR.out (by omega)
      have hbw : Below w.heap.size w wr := hrel.out.below
      obtain ⟨da, dc, hd, _, _⟩ := H1.out.bytes k hlt
      have hbyt := H1.out.bytes k hlt
      have c0 : wr.cell? ⟨ab, ao + k * 2, none⟩ = some (.int .i64 (l.getD k (0, [])).1) := cell_keep hbw (hcc k hlt).1 (World.block_lt_of_cell? w _ (hcc k hlt).1)
      have c1 : wr.cell? ⟨ab, ao + k * 2 + 1, none⟩ = some (.slice da (l.getD k (0, [])).2.length dc) := hd ▸ cell_keep hbw (hcc k hlt).2 (World.block_lt_of_cell? w _ (hcc k hlt).2)
      have hdl := HD.out k hlt
      rw [hd] at hbyt
      obtain ⟨p, hp⟩ : ∃ p, p = l.getD k (0, []) := ⟨_, rfl⟩
      rw [← hp] at c0 c1 hdl hbyt
      obtain ⟨nm, ds⟩ := p
      dsimp only at c0 c1 hdl hbyt
      have hsz := hbw.size
      have b0 : Below w.heap.size w (wr.alloc (.cells #[.int .i64 nm, .slice da ds.length dc] 37)).drew := (hbw.alloc hsz _).drew
      have e0 : (wr.alloc (.cells #[.int .i64 nm, .slice da ds.length dc] 37)).drew.heap.size = wr.heap.size + 1 := by show (wr.alloc _).heap.size = _; simp
      have fl : Calls Try.prog 44 #[.slice da ds.length dc, .int .i64 16384] (wr.alloc (.cells #[.int .i64 nm, .slice da ds.length dc] 37)).drew fun e w1 => e = .returned (.slice (some ⟨wr.heap.size + 1, 0, none⟩) 16384 16384) ∧ ∃ xs,
          w1.cell? ⟨w.heap.size, 0, none⟩ = some (.slice ba bn bc) ∧ (w1.alloc (.cells #[.int .i64 nm, .slice (some ⟨wr.heap.size + 1, 0, none⟩) 16384 16384] 37)).cell? ⟨w.heap.size, 0, none⟩ = some (.slice ba bn bc) ∧
          (w1.cell? ⟨wr.heap.size, 0, none⟩ = some (.int .i64 nm) ∧ w1.cell? ⟨wr.heap.size, 1, none⟩ = some (.slice da ds.length dc)) ∧
          Hid ((w1.alloc (.cells #[.int .i64 nm, .slice (some ⟨wr.heap.size + 1, 0, none⟩) 16384 16384] 37)).cell? ⟨wr.heap.size, 0, none⟩ = some (.int .i64 nm) ∧ (w1.alloc (.cells #[.int .i64 nm, .slice (some ⟨wr.heap.size + 1, 0, none⟩) 16384 16384] 37)).cell? ⟨wr.heap.size, 1, none⟩ = some (.slice da ds.length dc)) ∧
          Hid ((w1.alloc (.cells #[.int .i64 nm, .slice (some ⟨wr.heap.size + 1, 0, none⟩) 16384 16384] 37)).ownsRow (w.heap.size + 1) 37 2 (.slice ba bn bc) k xs) ∧ w.heap.size + 1 ≤ w1.heap.size ∧
          Hid (∀ j u, ([.int .i64 nm, .slice (some ⟨wr.heap.size + 1, 0, none⟩) 16384 16384] : List Value)[j]? = some u → (w1.alloc (.cells #[.int .i64 nm, .slice (some ⟨wr.heap.size + 1, 0, none⟩) 16384 16384] 37)).cell? ((⟨w1.heap.size, 0, none⟩ : Addr).add j) = some u) ∧
          Hid (∀ v' w3 ys, (w1.alloc (.cells #[.int .i64 nm, .slice (some ⟨wr.heap.size + 1, 0, none⟩) 16384 16384] 37)).grownBy w3 (Value.slice ba bn bc).ownBlock → w3.ownsRow (w.heap.size + 1) 37 2 v' (k + 1) ys →
            w3.cell? ⟨w.heap.size, 0, none⟩ = some (.slice ba bn bc) ∧ w3.frozen? ⟨w.heap.size, 0, none⟩ = false ∧ (w3.cell? ⟨wr.heap.size, 0, none⟩ = some (.int .i64 nm) ∧ w3.cell? ⟨wr.heap.size, 1, none⟩ = some (.slice da ds.length dc)) ∧
            ((w3.setCell ⟨w.heap.size, 0, none⟩ v').cell? ⟨wr.heap.size, 0, none⟩ = some (.int .i64 nm) ∧ (w3.setCell ⟨w.heap.size, 0, none⟩ v').cell? ⟨wr.heap.size, 1, none⟩ = some (.slice da ds.length dc)) ∧
            CpRel w (w3.setCell ⟨w.heap.size, 0, none⟩ v') (k + 1) v' (.slice ra ram.length rc) (.slice sa scr.length sc) chosen pad pitch volume time cycle (.slice none 0 0)) := by
        refine (full_any _ _ ds 16384 (hbyt.below b0) hdl (Nat.le_refl _)).mono ?_
        rintro e w1 ⟨rfl, _, hb⟩
        rw [e0] at hb
        obtain ⟨xs, ⟨q1, q2⟩, q3, q4, q5, q6, q7, q8⟩ := hrel.out.round hb #[.int .i64 nm, .slice (some ⟨wr.heap.size + 1, 0, none⟩) 16384 16384]
        exact ⟨by rw [e0], xs, q1, q2, q3, q4, q5, q6, q7, q8⟩
      have FL := Lib.hid fl
      have t0 : (wr.alloc (.cells #[.int .i64 nm, .slice da ds.length dc] 37)).drew.cell? ⟨wr.heap.size, 0, none⟩ = some (.int .i64 nm) ∧ (wr.alloc (.cells #[.int .i64 nm, .slice da ds.length dc] 37)).drew.cell? ⟨wr.heap.size, 1, none⟩ = some (.slice da ds.length dc) := by
        have hW : (wr.alloc (.cells #[.int .i64 nm, .slice da ds.length dc] 37)).drew.heap[wr.heap.size]? = some (.cells #[.int .i64 nm, .slice da ds.length dc] 37 (0, 0)) := heap_alloc_at wr _
        exact ⟨by rw [cell_of hW]; rfl, by rw [cell_of hW]; rfl⟩
      have T0 := Lib.hid t0
      have x0 : wr.cell? ⟨w.heap.size, 0, none⟩ = some (.slice ba bn bc) := (cells10 hrel.out.obj).1
      have x1 : (wr.alloc (.cells #[.int .i64 nm, .slice da ds.length dc] 37)).cell? ⟨w.heap.size, 0, none⟩ = some (.slice ba bn bc) := by
        have hl := hrel.out.lt
        rw [World.cell?_of_block (w := wr) (Below.heap_alloc _ _ _ hl)]; exact x0
      clear fl t0 hp hd hcc hbyt b0 e0 hbw
      go_wp2_with (fail)
      go_region_law (first
        | (go_simp; go_at_call 44; refine FL.out.mono ?_; rintro e w1 ⟨rfl, xs, y1, y2, ⟨T1, T1b⟩, T2, HV, hsz1, HNW, AP⟩; dsimp only)
        | (refine step_append_lies _ rfl (.tmp 20) (.tmp 27) 22 rfl (w.heap.size + 1) 37 i1 _ 2 32 Try.underlying22 hj hy0 hy1 hy2 rfl (by decide) (.slice ba bn bc) k xs (by simp [Act.eval]) HV.out ⟨w1.heap.size, 0, none⟩ 1 1 [.int .i64 nm, .slice (some ⟨wr.heap.size + 1, 0, none⟩) 16384 16384] (by simp [Act.eval]) rfl HNW.out (by simp [Value.oneCell']) (by decide) (by simp only [maxLen]; omega) (by omega) (by simp; omega) _ rfl ?_; intro q qc w3 ho hg hat hlt'; obtain ⟨y3, yf3, T3', T4', R'⟩ := AP.out _ w3 _ hg ho; have RR := Lib.hid R'; clear ho hg hat hlt' T3' T4' R'))
      all_goals
        go_wp2_with (fail)
        go_roundw
        case rel => exact ⟨k + 1, hlt, by go_num, _, RR⟩
        case measure => simp [intOf]; omega
    · have hke : k = l.length := by omega
      have mw := CM.out wr hrel.out.below
      obtain ⟨n0, n1, n2, n3, n4, n5, n6, n7, n8, n9, nf⟩ := cells10 mw
      have h2w := Lib.hid (H2.out.below hrel.out.below)
      clear hke mw
      go_wp2_with (fail)
      refine (full_any _ _ ram 16384 h2w.out (by omega) (Nat.le_refl _)).mono ?_
      rintro e w1 ⟨rfl, _, b1⟩
      have r1 := hrel.out.next b1
      have r1' := r1.set1 (.slice (some ⟨wr.heap.size, 0, none⟩) 16384 16384)
      obtain ⟨x0, x1, x2, x3, x4, x5, x6, x7, x8, x9, xf⟩ := cells10 r1.obj
      have R1 := Lib.hid r1'
      have mw1 := CM.out _ r1'.below
      obtain ⟨o0, o1, o2, o3, o4, o5, o6, o7, o8, o9, of⟩ := cells10 mw1
      have h3w := Lib.hid (H3.out.below r1'.below)
      clear b1 r1 r1' mw1 n0 n1 n2 n3 n4 n5 n6 n7 n8 n9 nf h2w
      go_wp2_with (fail)
      have es : (w1.setCell ⟨w.heap.size, 1, none⟩ (.slice (some ⟨wr.heap.size, 0, none⟩) 16384 16384)).heap.size = w1.heap.size := by simp [World.setCell]
      refine (full_any _ _ scr 3072 h3w.out (by omega) (by omega)).mono ?_
      rintro e w2 ⟨he, _, b2⟩
      rw [es] at he
      subst he
      have r2' := (R1.out.next b2).set2 (.slice (some ⟨w1.heap.size, 0, none⟩) 3072 3072)
      obtain ⟨y0, y1, y2, y3, y4, y5, y6, y7, y8, y9, yf⟩ := cells10 (R1.out.next b2).obj
      have es2 : (w2.setCell ⟨w.heap.size, 2, none⟩ (.slice (some ⟨w1.heap.size, 0, none⟩) 3072 3072)).heap.size = w2.heap.size := by simp [World.setCell]
      have ba2 : Below (w2.setCell ⟨w.heap.size, 2, none⟩ (.slice (some ⟨w1.heap.size, 0, none⟩) 3072 3072)).heap.size (w2.setCell ⟨w.heap.size, 2, none⟩ (.slice (some ⟨w1.heap.size, 0, none⟩) 3072 3072)) ((w2.setCell ⟨w.heap.size, 2, none⟩ (.slice (some ⟨w1.heap.size, 0, none⟩) 3072 3072)).alloc (.cells #[] 92)) := (Below.refl _ _).alloc (Nat.le_refl _) _
      have r3 := r2'.next ba2
      have mw3 := CM.out _ r3.below
      have p9 := (cells10 mw3).2.2.2.2.2.2.2.2.2.1
      have z9 := (cells10 r3.obj).2.2.2.2.2.2.2.2.2.1
      have zf := (cells10 r3.obj).2.2.2.2.2.2.2.2.2.2
      have own0 : Hid (((w2.setCell ⟨w.heap.size, 2, none⟩ (.slice (some ⟨w1.heap.size, 0, none⟩) 3072 3072)).alloc (.cells #[] 92)).ownsRow w2.heap.size 92 3 (.slice (some ⟨w2.heap.size, 0, none⟩) 0 0) 0 []) := by
        have h := World.ownsRow_made (w2.setCell ⟨w.heap.size, 2, none⟩ (.slice (some ⟨w1.heap.size, 0, none⟩) 3072 3072)) #[] 0 (e := 92) (size := 3) (base := w2.heap.size) (by rw [es2]; exact Nat.le_refl _) (by simp [maxLen]) (by simp)
        rw [es2] at h; exact h
      have fin : Hid (Below w.heap.size w (((w2.setCell ⟨w.heap.size, 2, none⟩ (.slice (some ⟨w1.heap.size, 0, none⟩) 3072 3072)).alloc (.cells #[] 92)).setCell ⟨w.heap.size, 9, none⟩ (.slice (some ⟨w2.heap.size, 0, none⟩) 0 0))) := r3.below.setCell (by simp) _
      clear b2 r2' R1 x0 x1 x2 x3 x4 x5 x6 x7 x8 x9 xf mw3 r3 ba2
      go_wp2_with (at_builtin; refine wpList_append_own_none rfl _ _ 55 rfl w2.heap.size 92 i0 3 Try.underlying55 hi _ 0 [] rfl own0.out rfl ?_)
      go_ret
      exact ⟨rfl, fin.out⟩
end Go.Proofs.Ytabeljpnmmfpgaa
