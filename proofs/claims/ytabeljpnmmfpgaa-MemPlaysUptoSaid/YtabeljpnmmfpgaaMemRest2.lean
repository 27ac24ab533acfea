/-
  mem.Restore, walked.
-/
import Derived.Test.YtabeljpnmmfpgaaMemRest
import Derived.Test.YtabeljpnmmfpgaaMemRefR2
import Derived.Deep.RegionHeld3
namespace Go.Proofs.Ytabeljpnmmfpgaa
open Go.RowKit Go.MapKept
set_option linter.unusedVariables false
set_option linter.unusedSimpArgs false

def RestPost (w : World) (I : Img) (e : Ending) (w' : World) : Prop :=
  Below w.heap.size w w' ∧ ((ImgOk I ∧ ∃ q S, e = .returned (.tuple #[.pointer (some ⟨q, 0, none⟩), .int .i64 0]) ∧ MemRep w' q (imgMem I) S ∧ ∀ i, S i → w.heap.size ≤ i) ∨ (¬ ImgOk I ∧ e = .returned (.tuple #[.pointer none, .int .i64 2])))

theorem imgMem_ok {I : Img} (ho : I.Ok) : (imgMem I).Ok := by
  refine ⟨?_, ho.ram.at_, ho.scr.at_, ho.chosen, ho.pad, ho.volume, ho.pitch, ho.time⟩
  intro n g hg
  have : ∀ k, k ≤ I.banks.length → bankOf I.banks k n = some g → ∀ i, 0 ≤ g i ∧ g i < 256 := by
    intro k
    induction k with
    | zero => intro _ h; cases h
    | succ k ih =>
      intro hk h
      unfold bankOf at h
      split at h
      · cases h; exact (ho.banks k (by omega)).at_
      · exact ih (by omega) h
  exact this _ (Nat.le_refl _) hg

/-- The box and the memory that New made stand. -/
structure RsRel (w W : World) (V : Array Value) (t : TypeId) (l : List (Int × List Int)) : Prop where
  bx : Bx w W V t
  mem : ∃ S, MemRep W (w.heap.size + 1 + 1) (newMem l l.length) S ∧ ∀ i, S i → w.heap.size + 1 ≤ i
theorem RsRel.next {w W W' : World} {V : Array Value} {t : TypeId} {l : List (Int × List Int)} (h : RsRel w W V t l) (hb : Below W.heap.size W W') : RsRel w W' V t l := by
  obtain ⟨h1, S, h2, h3⟩ := h
  exact ⟨h1.next hb, S, h2.stays (fun i hi => hb.block i (h2.lt i hi)), h3⟩

set_option maxRecDepth 100000 in
set_option maxHeartbeats 4000000 in
theorem restore_any (w : World) (I : Img) (b r s : Value) (dv : Nat → Value) (h : ImgIn w I b r s dv) (hlen : I.banks.length ≤ 2000000) (ho : I.Ok) :
    Calls Try.prog 19 #[I.val b r s] w (RestPost w I) := by
  have hmok := imgMem_ok ho
  have hram := ho.ram; have hscr := ho.scr
  have hp : ∀ e w', RestPost w I e w' ↔ (Below w.heap.size w w' ∧ ((ImgOk I ∧ ∃ q S, e = .returned (.tuple #[.pointer (some ⟨q, 0, none⟩), .int .i64 0]) ∧ MemRep w' q (imgMem I) S ∧ ∀ i, S i → w.heap.size ≤ i) ∨ (¬ ImgOk I ∧ e = .returned (.tuple #[.pointer none, .int .i64 2])))) := fun _ _ => Iff.rfl
  have hiff : ImgOk I ↔ ((banksOk I.banks ∧ I.ram.length = 16384 ∧ I.scr.length = 3072 ∧ I.chosen < 16) ∧ ∀ j, j < I.banks.length → (I.banks.getD j (0, [])).2.length = 16384) :=
    ⟨fun h => ⟨⟨h.banks, h.ram, h.scr, h.chosen⟩, h.full⟩, fun h => ⟨h.1.1, h.2, h.1.2.1, h.1.2.2.1, h.1.2.2.2⟩⟩
  generalize RestPost w I = post at hp ⊢
  generalize ImgOk I = okI at hp hiff
  obtain ⟨l, ram, scr, chosen, pad, pitch, volume, time⟩ := I
  obtain ⟨h1, h2, h3⟩ := h
  dsimp only [Img.val] at *
  have H1 := Lib.hid h1; have H2 := Lib.hid h2; have H3 := Lib.hid h3
  obtain ⟨A, cap, rfl, hrow⟩ := h1.row
  obtain ⟨ra, rc, rfl, _, h2r⟩ := h2
  obtain ⟨sa, sc, rfl, _, h3r⟩ := h3
  have HR := Lib.hid hrow
  have HI := Lib.hid hiff
  have PO := Lib.hid hp
  have RR := Lib.hid h2r
  have SR := Lib.hid h3r
  have MOK := Lib.hid hmok
  obtain ⟨V, hV⟩ : ∃ V : Array Value, V = #[.slice A l.length cap, .slice ra ram.length rc, .slice sa scr.length sc, .int .u8 chosen, .int .u8 pad, .int .u16 pitch, .int .u8 volume, .int .u16 time] := ⟨_, rfl⟩
  have st := Lib.hid (Bx.start w V 49)
  have nb := Lib.hid (new_any (w.alloc (.cells V 49)) _ l dv (H1.out.below st.out.below) (by omega))
  subst hV
  clear hrow hiff hp h1 h2r h3r hmok ho hram hscr
  obtain ⟨s0, s1, s2, s3, s4, s5, s6, s7, sf⟩ := cells8 st.out.box
  go_enter Try.func19, Try.ntmps19
  go_wp2_with (fail)
  refine nb.out.mono ?_
  rintro e w1 ⟨b1, hb⟩
  have bx1 := Lib.hid (st.out.next b1)
  have e0 : (w.alloc (.cells #[.slice A l.length cap, .slice ra ram.length rc, .slice sa scr.length sc, .int .u8 chosen, .int .u8 pad, .int .u16 pitch, .int .u8 volume, .int .u16 time] 49)).heap.size = w.heap.size + 1 := by simp
  clear b1 s0 s1 s2 s3 s4 s5 s6 s7 sf nb st
  rcases hb with ⟨hb, rfl, S1, m1, hS1⟩ | ⟨hb, rfl⟩
  rotate_left
  · have fin : Hid (post (.returned (.tuple #[.pointer none, .int .i64 2])) w1) := (PO.out _ _).2 ⟨bx1.out.below, .inr ⟨fun h => hb (HI.out.1 h).1.1, rfl⟩⟩
    clear hb e0
    go_wp2_with (fail)
    exact fin.out
  · rw [e0] at m1 hS1
    have rel1 : Hid (RsRel w w1 #[.slice A l.length cap, .slice ra ram.length rc, .slice sa scr.length sc, .int .u8 chosen, .int .u8 pad, .int .u16 pitch, .int .u8 volume, .int .u16 time] 49 l) := ⟨bx1.out, S1, m1, hS1⟩
    have HB := Lib.hid hb
    obtain ⟨t0, t1, t2, t3, t4, t5, t6, t7, tf⟩ := cells8 bx1.out.box
    clear hb m1 hS1 e0
    go_wp2_with (fail)
    go_loopw [20] (fun i wr => ∃ k : Nat, k ≤ l.length ∧ i = .int .i64 k ∧ Hid (∀ j, j < k → (l.getD j (0, [])).2.length = 16384) ∧ Hid (RsRel w wr #[.slice A l.length cap, .slice ra ram.length rc, .slice sa scr.length sc, .int .u8 chosen, .int .u8 pad, .int .u16 pitch, .int .u8 volume, .int .u16 time] 49 l)) (fun i _ => l.length - (intOf i).toNat)
    case atStart => exact ⟨0, Nat.zero_le _, rfl, (fun j hj => by omega), rel1⟩
    case round =>
      obtain ⟨k, hk, rfl, hall, rel⟩ := hrel
      clear t0 t1 t2 t3 t4 t5 t6 t7 tf bx1 rel1
      by_cases hlt : k < l.length
      · obtain ⟨ab, ao, rfl, hcc⟩ := HR.out (by omega)
        have hbw : Below w.heap.size w wr := rel.out.bx.below
        obtain ⟨da, dc, hd, _, _⟩ := H1.out.bytes k hlt
        have c0 : wr.cell? ⟨ab, ao + k * 2, none⟩ = some (.int .i64 (l.getD k (0, [])).1) := cell_keep hbw (hcc k hlt).1 (World.block_lt_of_cell? w _ (hcc k hlt).1)
        have c1 : wr.cell? ⟨ab, ao + k * 2 + 1, none⟩ = some (.slice da (l.getD k (0, [])).2.length dc) := hd ▸ cell_keep hbw (hcc k hlt).2 (World.block_lt_of_cell? w _ (hcc k hlt).2)
        obtain ⟨p, hp⟩ : ∃ p, p = l.getD k (0, []) := ⟨_, rfl⟩
        rw [← hp] at c0 c1
        have HP := Lib.hid hp
        obtain ⟨nm, ds⟩ := p
        dsimp only at c0 c1
        have rel2 := Lib.hid (rel.out.next ((Below.refl _ _).alloc (Nat.le_refl _) (.cells #[.int .i64 nm, .slice da ds.length dc] 37)))
        clear hp hd hcc hbw HR
        by_cases n1 : ds.length = 16384
        · have d1 : ((ds.length : Int) != 16384) = false := by simp; omega
          have f2 : Hid (∀ j, j < k + 1 → (l.getD j (0, [])).2.length = 16384) := by
            intro j hj
            by_cases e : j = k
            · subst e; rw [← HP.out]; exact n1
            · exact hall.out j (by omega)
          clear n1
          go_wp2_with (fail)
          go_roundw
          case rel => exact ⟨k + 1, hlt, by go_num, f2, rel2⟩
          case measure => simp [intOf]; omega
        · have d1 : ((ds.length : Int) != 16384) = true := by simp; omega
          have fin : Hid (post (.returned (.tuple #[.pointer none, .int .i64 2])) (wr.alloc (.cells #[.int .i64 nm, .slice da ds.length dc] 37))) :=
            (PO.out _ _).2 ⟨rel2.out.bx.below, .inr ⟨fun h => n1 (by have := (HI.out.1 h).2 k hlt; rw [← HP.out] at this; exact this), rfl⟩⟩
          clear n1
          go_wp2_with (fail)
          exact fin.out
      · have hke : k = l.length := by omega
        have hfull : Hid (∀ j, j < l.length → (l.getD j (0, [])).2.length = 16384) := hke ▸ hall
        have bad : Hid (¬ (ram.length = 16384 ∧ scr.length = 3072 ∧ chosen < 16) → post (.returned (.tuple #[.pointer none, .int .i64 2])) wr) := fun hn =>
          (PO.out _ _).2 ⟨rel.out.bx.below, .inr ⟨fun h => hn (HI.out.1 h).1.2, rfl⟩⟩
        obtain ⟨v0, v1, v2, v3, v4, v5, v6, v7, vf⟩ := cells8 rel.out.bx.box
        clear hke hall
        by_cases n1 : ram.length = 16384
        rotate_left
        · have d1 : ((ram.length : Int) != 16384) = true := by simp; omega
          have fin := Lib.hid (bad.out (fun h => n1 h.1))
          clear n1
          go_wp2_with (fail)
          exact fin.out
        have d1 : ((ram.length : Int) != 16384) = false := by simp; omega
        by_cases n2 : scr.length = 3072
        rotate_left
        · have d2 : ((scr.length : Int) != 3072) = true := by simp; omega
          have fin := Lib.hid (bad.out (fun h => n2 h.2.1))
          clear n1 n2
          go_wp2_with (fail)
          exact fin.out
        have d2 : ((scr.length : Int) != 3072) = false := by simp; omega
        by_cases n3 : chosen < 16
        rotate_left
        · have d3 : decide (16 ≤ chosen) = true := by simp; omega
          have fin := Lib.hid (bad.out (fun h => n3 h.2.2))
          clear n1 n2 n3
          go_wp2_with (fail)
          exact fin.out
        have d3 : decide (16 ≤ chosen) = false := by simp; omega
        obtain ⟨S, ⟨cs, bm, es, clk, bf, tv, HM⟩, hS⟩ := rel.out.mem
        obtain ⟨rb, ro, rfl, hrc⟩ := RR.out (by omega)
        obtain ⟨sb, so, rfl, hsc⟩ := SR.out (by omega)
        have hbx : wr.heap[w.heap.size]? = some (.cells #[.slice A l.length cap, .slice (some ⟨rb, ro, none⟩) ram.length rc, .slice (some ⟨sb, so, none⟩) scr.length sc, .int .u8 chosen, .int .u8 pad, .int .u16 pitch, .int .u8 volume, .int .u16 time] 49 (0, 0)) := rel.out.bx.box
        have hokI := HI.out.2 ⟨⟨HB.out, n1, n2, n3⟩, hfull.out⟩
        have hbel : Below w.heap.size w wr := rel.out.bx.below
        obtain ⟨M, hM⟩ : ∃ M, M = newMem l l.length := ⟨_, rfl⟩
        rw [← hM] at HM
        have hsz := HM.sz
        have l1 : (byteCells ram).length = 16384 := by rw [byteCells_length, n1]
        have l2 : (byteCells scr).length = 3072 := by rw [byteCells_length, n2]
        have B0 : Hid (wr.drew.heap[w.heap.size + 1 + 1]? = some (.cells cs 87 (0, 0))) := HM.blk
        have SRC1 : Hid (∀ j v, (byteCells ram)[j]? = some v → wr.drew.cell? ((⟨rb, ro, none⟩ : Addr).add j) = some v) := by
          intro j v hj
          obtain ⟨h1, rfl⟩ := byteCells_at hj
          rw [addr_add]
          exact cell_keep hbel (hrc j h1) (World.block_lt_of_cell? w _ (hrc j h1))
        have FIT1 : Hid (1 + (byteCells ram).length ≤ cs.size) := show _ ≤ _ by rw [l1, hsz]; decide
        have FIT2 : Hid (16385 + (byteCells scr).length ≤ (rest1 cs ram).size) := show _ ≤ _ by rw [l2, rest1_size hsz n1]; decide
        have ONE1 := Lib.hid (byteCells_one ram)
        have ONE2 := Lib.hid (byteCells_one scr)
        have HN1 := Lib.hid n1
        have HN2 := Lib.hid n2
        have L1 := Lib.hid l1
        have L2 := Lib.hid l2
        have after1 : Hid (∀ w3, w3 = wr.drew.setRow (w.heap.size + 1 + 1) (splice cs.toList 1 (byteCells ram)).toArray → w3.drew.heap[w.heap.size + 1 + 1]? = some (.cells (rest1 cs ram) 87 (0, 0)) ∧
            (∀ j v, (byteCells scr)[j]? = some v → w3.drew.cell? ((⟨sb, so, none⟩ : Addr).add j) = some v) ∧ w3.heap[w.heap.size]? = some (.cells #[.slice A l.length cap, .slice (some ⟨rb, ro, none⟩) ram.length rc, .slice (some ⟨sb, so, none⟩) scr.length sc, .int .u8 chosen, .int .u8 pad, .int .u16 pitch, .int .u8 volume, .int .u16 time] 49 (0, 0))) := by
          rintro w3 rfl
          refine ⟨setRow_heap _ _ _ _ _ _ B0.out, fun j v hj => ?_, ?_⟩
          · obtain ⟨h1, rfl⟩ := byteCells_at hj
            rw [addr_add]
            have hlt := World.block_lt_of_cell? w _ (hsc j h1)
            have hb3 : Below w.heap.size w (wr.drew.setRow (w.heap.size + 1 + 1) (splice cs.toList 1 (byteCells ram)).toArray) := below_setRow hbel.drew (by omega) _
            exact cell_keep hb3 (hsc j h1) hlt
          · rw [setRow_other _ _ _ _ (by omega)]
            exact hbx
        have after2 : Hid (∀ w3 w4, w3 = wr.drew.setRow (w.heap.size + 1 + 1) (splice cs.toList 1 (byteCells ram)).toArray → w4 = w3.drew.setRow (w.heap.size + 1 + 1) (splice (rest1 cs ram).toList 16385 (byteCells scr)).toArray →
            (w4.heap[w.heap.size]? = some (.cells #[.slice A l.length cap, .slice (some ⟨rb, ro, none⟩) ram.length rc, .slice (some ⟨sb, so, none⟩) scr.length sc, .int .u8 chosen, .int .u8 pad, .int .u16 pitch, .int .u8 volume, .int .u16 time] 49 (0, 0))) ∧
            w4.heap[w.heap.size + 1 + 1]? = some (.cells (rest2 cs ram scr) 87 (0, 0)) ∧
            post (.returned (.tuple #[.pointer (some ⟨w.heap.size + 1 + 1, 0, none⟩), .int .i64 0])) (((((w4.drew.setCell ⟨w.heap.size + 1 + 1, 19457, none⟩ (.int .u8 chosen)).setCell ⟨w.heap.size + 1 + 1, 19458, none⟩ (.int .u8 pad)).setCell ⟨w.heap.size + 1 + 1, 19460, none⟩ (.int .u16 pitch)).setCell ⟨w.heap.size + 1 + 1, 19459, none⟩ (.int .u8 volume)).setCell ⟨w.heap.size + 1 + 1, 19461, none⟩ (.int .u16 time))) := by
          rintro w3 w4 rfl rfl
          have hM2 : MemAt wr.drew (w.heap.size + 1 + 1) M S cs bm es clk bf tv := HM.stays (fun i _ => rfl)
          have hd := rest_done hM2 (ram := ram) (scr := scr) (chosen := chosen) (pad := pad) (pitch := pitch) (volume := volume) (time := time) n1 n2 (by rw [hM]; exact MOK.out)
          rw [hM] at hd
          refine ⟨?_, restW_blk (ram := ram) (scr := scr) B0.out, (PO.out _ _).2 ⟨?_, .inl ⟨hokI, _, S, rfl, hd, fun i hi => by have := hS i hi; omega⟩⟩⟩
          · exact (restW_far (b := w.heap.size + 1 + 1) (cs := cs) (ram := ram) (scr := scr) (by omega)).trans hbx
          · have hb4 : Below w.heap.size w (restW wr.drew (w.heap.size + 1 + 1) cs ram scr) := restW_below hbel.drew (by omega)
            exact ((((hb4.setCell (p := ⟨w.heap.size + 1 + 1, 19457, none⟩) (by simp; omega) _).setCell (p := ⟨w.heap.size + 1 + 1, 19458, none⟩) (by simp; omega) _).setCell (p := ⟨w.heap.size + 1 + 1, 19460, none⟩) (by simp; omega) _).setCell (p := ⟨w.heap.size + 1 + 1, 19459, none⟩) (by simp; omega) _).setCell (p := ⟨w.heap.size + 1 + 1, 19461, none⟩) (by simp; omega) _
        have ex2 : Hid (∀ k, k < 19464 → ∃ v, (rest2 cs ram scr)[k]? = some v) := fun k hk => ⟨_, Array.getElem?_eq_getElem (by rw [rest2_size hsz n1 n2]; exact hk)⟩
        obtain ⟨ramC, hrc'⟩ : ∃ x, x = byteCells ram := ⟨_, rfl⟩
        obtain ⟨scrC, hsc'⟩ : ∃ x, x = byteCells scr := ⟨_, rfl⟩
        rw [← hrc'] at SRC1 FIT1 ONE1 L1 after1 after2
        rw [← hsc'] at FIT2 ONE2 L2 after1 after2
        clear l1 l2 hrc' hsc' n1 n2 HM hM hbx hokI hbel hsz hS hrc hsc rel bad RR SR
        go_wp2_with (fail)
        go_region_law (refine step_copy_at rfl (.tmp 47) (.tmp 49) 35 35 rfl 5 Try.underlying35 (by kernel_rfl) (w.heap.size + 1 + 1) 1 ⟨rb, ro, none⟩ 16384 ram.length 16384 rc (by simp [Act.eval]) (by simp [Act.eval]) cs 87 B0.out ramC L1.out HN1.out SRC1.out FIT1.out ONE1.out ?_; intro w3 E3; obtain ⟨X1', X2', X3'⟩ := after1.out w3 E3.out; have X1 := Lib.hid X1'; have X2 := Lib.hid X2'; obtain ⟨q0, q1, q2, q3, q4, q5, q6, q7, qf⟩ := cells8 X3'; clear X1' X2' X3')
        all_goals
          go_wp2_with (fail)
          go_region_law (refine step_copy_at rfl (.tmp 54) (.tmp 56) 35 35 rfl 5 Try.underlying35 (by kernel_rfl) (w.heap.size + 1 + 1) 16385 ⟨sb, so, none⟩ 3072 scr.length 3072 sc (by simp [Act.eval]) (by simp [Act.eval]) (rest1 cs ram) 87 X1.out scrC L2.out HN2.out X2.out FIT2.out ONE2.out ?_; intro w4 E4; obtain ⟨Y1, Y2, Y3'⟩ := after2.out w3 w4 E3.out E4.out; have Y3 := Lib.hid Y3'; obtain ⟨p0, p1, p2, p3, p4, p5, p6, p7, pf⟩ := cells8 Y1; clear Y3' Y1)
          all_goals
            obtain ⟨z1, hz1⟩ := ex2.out 19457 (by omega)
            obtain ⟨z2, hz2⟩ := ex2.out 19458 (by omega)
            obtain ⟨z3, hz3⟩ := ex2.out 19459 (by omega)
            obtain ⟨z4, hz4⟩ := ex2.out 19460 (by omega)
            obtain ⟨z5, hz5⟩ := ex2.out 19461 (by omega)
            have m1 : w4.cell? ⟨w.heap.size + 1 + 1, 19457, none⟩ = some z1 := by rw [cell_of Y2]; exact hz1
            have m2 : w4.cell? ⟨w.heap.size + 1 + 1, 19458, none⟩ = some z2 := by rw [cell_of Y2]; exact hz2
            have m3 : w4.cell? ⟨w.heap.size + 1 + 1, 19459, none⟩ = some z3 := by rw [cell_of Y2]; exact hz3
            have m4 : w4.cell? ⟨w.heap.size + 1 + 1, 19460, none⟩ = some z4 := by rw [cell_of Y2]; exact hz4
            have m5 : w4.cell? ⟨w.heap.size + 1 + 1, 19461, none⟩ = some z5 := by rw [cell_of Y2]; exact hz5
            have mf : ∀ j, w4.frozen? ⟨w.heap.size + 1 + 1, j, none⟩ = false := free_of Y2
            clear hz1 hz2 hz3 hz4 hz5 Y2 X1 X2 E3 E4 q0 q1 q2 q3 q4 q5 q6 q7 qf v0 v1 v2 v3 v4 v5 v6 v7 vf after1 after2
            have hne : w.heap.size + 1 + 1 ≠ w.heap.size := by omega
            have T0 := Lib.hid (show w4.drew.cell? ⟨w.heap.size, 3, none⟩ = some (.int .u8 chosen) ∧ w4.drew.cell? ⟨w.heap.size, 4, none⟩ = some (.int .u8 pad) ∧ w4.drew.cell? ⟨w.heap.size, 5, none⟩ = some (.int .u16 pitch) ∧ w4.drew.cell? ⟨w.heap.size, 6, none⟩ = some (.int .u8 volume) ∧ w4.drew.cell? ⟨w.heap.size, 7, none⟩ = some (.int .u16 time) from ⟨p3, p4, p5, p6, p7⟩)
            go_wp2_with (fail)
            go_region_held3 (fun w' => w'.cell? ⟨w.heap.size, 3, none⟩ = some (.int .u8 chosen) ∧ w'.cell? ⟨w.heap.size, 4, none⟩ = some (.int .u8 pad) ∧ w'.cell? ⟨w.heap.size, 5, none⟩ = some (.int .u16 pitch) ∧ w'.cell? ⟨w.heap.size, 6, none⟩ = some (.int .u8 volume) ∧ w'.cell? ⟨w.heap.size, 7, none⟩ = some (.int .u16 time))
              (first | with_reducible exact T0.out | go_keep)
              (fail)
            all_goals
              go_wp2_with (fail)
              exact Y3.out
end Go.Proofs.Ytabeljpnmmfpgaa
