/-
  ref.Restore, 1: an image's lists under a new object are a memory.
  ref.Restore, 2: the memory that it makes.
-/
import Derived.Test.YtabeljpnmmfpgaaRefImage
import Derived.Test.YtabeljpnmmfpgaaMemRefR2
namespace Go.Proofs.Ytabeljpnmmfpgaa
open Go.RowKit Go.MapKept
set_option linter.unusedVariables false
set_option linter.unusedSimpArgs false

/-- The record of a memory restored of an image. -/
def Mm.fresh (M : Mm) : Mm := { M with cycle := 0, tones := [] }

theorem RefBody.stays {w w' : World} {M : Mm} {l : List Int} {bx : Nat → Nat} {bv : Value} {br bs : Nat} (h : RefBody w M l bx bv br bs) (hb : Below w.heap.size w w') : RefBody w' M l bx bv br bs := by
  have keep : ∀ {q n : Nat} {f : Nat → Int}, Buf w q n f → Buf w' q n f := fun hq => hq.keep (hb.block _ (by obtain ⟨cs, e, _⟩ := hq; exact heap_lt e))
  exact { h with ram := keep h.ram, scr := keep h.scr, row := ownsRow_heap h.row (fun k hk => hb.block _ (ownBlock_lt h.row hk)), bank := fun i hi => by obtain ⟨g, h1, h2⟩ := h.bank i hi; exact ⟨g, h1, keep h2⟩ }

theorem RefBody.rep {w : World} {M : Mm} {l : List Int} {bx : Nat → Nat} {bv : Value} {br bs : Nat} (h : RefBody w M l bx bv br bs) {q : Nat}
    (hq : w.heap[q]? = some (.cells (refCells bv (.slice (some ⟨br, 0, none⟩) 16384 16384) (.slice (some ⟨bs, 0, none⟩) 3072 3072) M.chosen M.pad M.pitch M.volume M.time 0 (.slice none 0 0)) 80 (0, 0))) :
    RefRep w q M.fresh (fun i => i < w.heap.size) := by
  have lt : ∀ {q n : Nat} {f : Nat → Int}, Buf w q n f → q < w.heap.size := fun hq => by obtain ⟨cs, e, _⟩ := hq; exact heap_lt e
  refine ⟨l, bx, bv, br, bs, .slice none 0 0, ?_⟩
  exact { ok := { h.ok with }, obj := hq, ram := h.ram, scr := h.scr, asc := h.asc, has := h.has, small := h.small, row := h.row, bank := h.bank, inj := h.inj, nrs := h.nrs, nrx := h.nrx, tones := World.ownsRow_nil _ _ _ _,
          sb := heap_lt hq, sr := lt h.ram, ss := lt h.scr, sx := fun i hi => by obtain ⟨g, _, h2⟩ := h.bank i hi; exact lt h2, sv := fun k hk => ownBlock_lt h.row hk, st := fun k hk => by simp [Value.ownBlock] at hk, lt := fun i hi => hi }
end Go.Proofs.Ytabeljpnmmfpgaa

namespace Go.Proofs.Ytabeljpnmmfpgaa
open Go.RowKit Go.MapKept
set_option linter.unusedVariables false
set_option linter.unusedSimpArgs false

def RefRPost (w : World) (I : Img) (M : Mm) (e : Ending) (w' : World) : Prop :=
  Below w.heap.size w w' ∧ ((ImgOk I ∧ ∃ q S, e = .returned (.tuple #[.pointer (some ⟨q, 0, none⟩), .int .i64 0]) ∧ RefRep w' q M.fresh S ∧ ∀ i, S i → w.heap.size ≤ i) ∨ (¬ ImgOk I ∧ e = .returned (.tuple #[.pointer none, .int .i64 2])))

set_option maxRecDepth 100000 in
set_option maxHeartbeats 4000000 in
theorem refRestore_rep (w : World) (I : Img) (M : Mm) (b r s : Value) (dv : Nat → Value) (h : ImgIn w I b r s dv) (hlen : I.banks.length ≤ 2000000)
    (body : ∀ (W : World) (q : Nat), Below w.heap.size w W → W.heap[q]? = some (.cells (refCells b r s I.chosen I.pad I.pitch I.volume I.time 0 (.slice none 0 0)) 80 (0, 0)) → RefRep W q M.fresh (fun i => i < W.heap.size)) :
    Calls Try.prog 17 #[I.val b r s] w (RefRPost w I M) := by
  have hiff : ImgOk I ↔ ((banksOk I.banks ∧ I.ram.length = 16384 ∧ I.scr.length = 3072 ∧ I.chosen < 16) ∧ ∀ j, j < I.banks.length → (I.banks.getD j (0, [])).2.length = 16384) :=
    ⟨fun h => ⟨⟨h.banks, h.ram, h.scr, h.chosen⟩, h.full⟩, fun h => ⟨h.1.1, h.2, h.1.2.1, h.1.2.2.1, h.1.2.2.2⟩⟩
  have hp : ∀ e w', RefRPost w I M e w' ↔ (Below w.heap.size w w' ∧ ((ImgOk I ∧ ∃ q S, e = .returned (.tuple #[.pointer (some ⟨q, 0, none⟩), .int .i64 0]) ∧ RefRep w' q M.fresh S ∧ ∀ i, S i → w.heap.size ≤ i) ∨ (¬ ImgOk I ∧ e = .returned (.tuple #[.pointer none, .int .i64 2])))) := fun _ _ => Iff.rfl
  generalize RefRPost w I M = post at hp ⊢
  generalize ImgOk I = okI at hp hiff
  obtain ⟨l, ram, scr, chosen, pad, pitch, volume, time⟩ := I
  obtain ⟨h1, h2, h3⟩ := h
  dsimp only [Img.val] at *
  have HBD := Lib.hid body
  clear body
  have H1 := Lib.hid h1; have H2 := Lib.hid h2; have H3 := Lib.hid h3
  obtain ⟨A, cap, rfl, hrow⟩ := h1.row
  obtain ⟨ra, rc, rfl, _⟩ := h2
  obtain ⟨sa, sc, rfl, _⟩ := h3
  have HR := Lib.hid hrow
  have HI := Lib.hid hiff
  have PO := Lib.hid hp
  obtain ⟨V, hV⟩ : ∃ V : Array Value, V = #[.slice A l.length cap, .slice ra ram.length rc, .slice sa scr.length sc, .int .u8 chosen, .int .u8 pad, .int .u16 pitch, .int .u8 volume, .int .u16 time] := ⟨_, rfl⟩
  have st := Lib.hid (Bx.start w V 45)
  have mb := Lib.hid (mayBanks_any (w.alloc (.cells V 45)) _ l dv (H1.out.below st.out.below) hlen)
  subst hV
  obtain ⟨okA, hA⟩ : ∃ okA : Prop, okA = (banksOk l ∧ ram.length = 16384 ∧ scr.length = 3072 ∧ chosen < 16) := ⟨_, rfl⟩
  have HA := Lib.hid hA
  rw [← hA] at HI
  clear hrow hiff hp h1 hA
  obtain ⟨s0, s1, s2, s3, s4, s5, s6, s7, sf⟩ := cells8 st.out.box
  go_enter Try.func17, Try.ntmps17
  go_upto_region 1 with (fail)
  go_cut [4] (fun p wx => ∃ ok : Bool, p = .bool ok ∧ Hid (ok = true ↔ okA) ∧ Hid (Bx w wx #[.slice A l.length cap, .slice ra ram.length rc, .slice sa scr.length sc, .int .u8 chosen, .int .u8 pad, .int .u16 pitch, .int .u8 volume, .int .u16 time] 45))
  case first =>
    go_wp2_with (fail)
    refine mb.out.mono ?_
    rintro e w1 ⟨b1, hb⟩
    have bx := Lib.hid (st.out.next b1)
    obtain ⟨t0, t1, t2, t3, t4, t5, t6, t7, tf⟩ := cells8 bx.out.box
    clear b1 s0 s1 s2 s3 s4 s5 s6 s7 sf
    rcases hb with ⟨hb, rfl⟩ | ⟨hb, rfl⟩
    · by_cases n1 : ram.length = 16384
      · have d1 : ((ram.length : Int) == 16384) = true := by simp; omega
        by_cases n2 : scr.length = 3072
        · have d2 : ((scr.length : Int) == 3072) = true := by simp; omega
          by_cases n3 : chosen < 16
          · have d3 : decide (chosen < 16) = true := by simpa using n3
            have fin : Hid (true = true ↔ okA) := show _ ↔ _ by rw [HA.out]; exact ⟨fun _ => ⟨hb, n1, n2, n3⟩, fun _ => rfl⟩
            clear hb n1 n2 n3
            go_wp2_with (fail)
            go_meet
            exact ⟨_, rfl, Lib.hid (by simpa using fin.out), bx⟩
          · have d3 : decide (chosen < 16) = false := by simpa using n3
            have fin : Hid (false = true ↔ okA) := show _ ↔ _ by rw [HA.out]; exact ⟨(fun h => by cases h), fun h => absurd h.2.2.2 n3⟩
            clear hb n1 n2 n3
            go_wp2_with (fail)
            go_meet
            exact ⟨_, rfl, fin, bx⟩
        · have d2 : ((scr.length : Int) == 3072) = false := by simp; omega
          have fin : Hid (false = true ↔ okA) := show _ ↔ _ by rw [HA.out]; exact ⟨(fun h => by cases h), fun h => absurd h.2.2.1 n2⟩
          clear hb n1 n2
          go_wp2_with (fail)
          go_meet
          exact ⟨_, rfl, fin, bx⟩
      · have d1 : ((ram.length : Int) == 16384) = false := by simp; omega
        have fin : Hid (false = true ↔ okA) := show _ ↔ _ by rw [HA.out]; exact ⟨(fun h => by cases h), fun h => absurd h.2.1 n1⟩
        clear hb n1
        go_wp2_with (fail)
        go_meet
        exact ⟨_, rfl, fin, bx⟩
    · have fin : Hid (false = true ↔ okA) := show _ ↔ _ by rw [HA.out]; exact ⟨(fun h => by cases h), fun h => absurd h.1 hb⟩
      clear hb
      go_wp2_with (fail)
      go_meet
      exact ⟨_, rfl, fin, bx⟩
  case rest =>
    obtain ⟨ok0, rfl, hok0, bx0⟩ := hcut
    clear mb st s0 s1 s2 s3 s4 s5 s6 s7 sf
    obtain ⟨t0, t1, t2, t3, t4, t5, t6, t7, tf⟩ := cells8 bx0.out.box
    go_wp2_with (fail)
    go_loopw [4, 31] (fun p i wr => ∃ (k : Nat) (ok : Bool), k ≤ l.length ∧ i = .int .i64 k ∧ p = .bool ok ∧ Hid (ok = true ↔ (okA ∧ ∀ j, j < k → (l.getD j (0, [])).2.length = 16384)) ∧ Hid (Bx w wr #[.slice A l.length cap, .slice ra ram.length rc, .slice sa scr.length sc, .int .u8 chosen, .int .u8 pad, .int .u16 pitch, .int .u8 volume, .int .u16 time] 45)) (fun _ i _ => l.length - (intOf i).toNat)
    case atStart =>
      refine ⟨0, ok0, Nat.zero_le _, rfl, rfl, ?_, bx0⟩
      show _ ↔ _
      exact hok0.out.trans ⟨fun h => ⟨h, fun j hj => by omega⟩, fun h => h.1⟩
    case round =>
      obtain ⟨k, ok, hk, rfl, rfl, hok, bx⟩ := hrel
      by_cases hlt : k < l.length
      · obtain ⟨ab, ao, rfl, hcc⟩ := HR.out (by omega)
        have hbw : Below w.heap.size w wr := bx.out.below
        obtain ⟨da, dc, hd, _, _⟩ := H1.out.bytes k hlt
        have c0 : wr.cell? ⟨ab, ao + k * 2, none⟩ = some (.int .i64 (l.getD k (0, [])).1) := cell_keep hbw (hcc k hlt).1 (World.block_lt_of_cell? w _ (hcc k hlt).1)
        have c1 : wr.cell? ⟨ab, ao + k * 2 + 1, none⟩ = some (.slice da (l.getD k (0, [])).2.length dc) := hd ▸ cell_keep hbw (hcc k hlt).2 (World.block_lt_of_cell? w _ (hcc k hlt).2)
        obtain ⟨p, hp⟩ : ∃ p, p = l.getD k (0, []) := ⟨_, rfl⟩
        rw [← hp] at c0 c1
        have HP := Lib.hid hp
        obtain ⟨nm, ds⟩ := p
        dsimp only at c0 c1
        have bx2 := Lib.hid (bx.out.next ((Below.refl _ _).alloc (Nat.le_refl _) (.cells #[.int .i64 nm, .slice da ds.length dc] 37)))
        have nxt : Hid (∀ ok2 : Bool, (ok2 = true ↔ (ok = true ∧ ds.length = 16384)) → (ok2 = true ↔ (okA ∧ ∀ j, j < k + 1 → (l.getD j (0, [])).2.length = 16384))) := by
          intro ok2 h
          have hds : ds = (l.getD k (0, [])).2 := by rw [← HP.out]
          rw [h, hok.out, hds]
          constructor
          · rintro ⟨⟨q1, q2⟩, q3⟩
            refine ⟨q1, fun j hj => ?_⟩
            by_cases e : j = k
            · subst e; exact q3
            · exact q2 j (by omega)
          · rintro ⟨q1, q2⟩
            exact ⟨⟨q1, fun j hj => q2 j (by omega)⟩, q2 k (by omega)⟩
        clear hp hd hcc hbw hok bx HR t0 t1 t2 t3 t4 t5 t6 t7 tf
        cases ok with
        | false =>
          have f2 := Lib.hid (nxt.out false (by simp))
          go_wp2_with (fail)
          go_roundw
          case rel => exact ⟨k + 1, false, hlt, by go_num, rfl, f2, bx2⟩
          case measure => simp [intOf]; omega
        | true =>
          by_cases n1 : ds.length = 16384
          · have d1 : ((ds.length : Int) == 16384) = true := by simp; omega
            have f2 := Lib.hid (nxt.out true (by simp [n1]))
            clear n1
            go_wp2_with (fail)
            go_roundw
            case rel => exact ⟨k + 1, true, hlt, by go_num, rfl, f2, bx2⟩
            case measure => simp [intOf]; omega
          · have d1 : ((ds.length : Int) == 16384) = false := by simp; omega
            have f2 := Lib.hid (nxt.out false (by simp [n1]))
            clear n1
            go_wp2_with (fail)
            go_roundw
            case rel => exact ⟨k + 1, false, hlt, by go_num, rfl, f2, bx2⟩
            case measure => simp [intOf]; omega
      · have hke : k = l.length := by omega
        have hokI : Hid (okI ↔ ok = true) := by
          show _ ↔ _
          rw [HI.out, hok.out, hke]
        obtain ⟨v0, v1, v2, v3, v4, v5, v6, v7, vf⟩ := cells8 bx.out.box
        cases ok with
        | false =>
          have fin : Hid (post (.returned (.tuple #[.pointer none, .int .i64 2])) wr) := (PO.out _ _).2 ⟨bx.out.below, .inr ⟨fun h => (by have := hokI.out.1 h; cases this), rfl⟩⟩
          clear hke hok
          go_wp2_with (fail)
          exact fin.out
        | true =>
          have hall : ∀ j, j < l.length → (l.getD j (0, [])).2.length ≤ 16384 := fun j hj => Nat.le_of_eq ((hok.out.1 rfl).2 j (by omega))
          have hA := (hok.out.1 rfl).1
          rw [HA.out] at hA
          have b2 := (Below.refl wr.heap.size wr).alloc (Nat.le_refl _) (.cells (refCells (.slice A l.length cap) (.slice ra ram.length rc) (.slice sa scr.length sc) chosen pad pitch volume time 0 (.slice none 0 0)) 80)
          have b3 := (bx.out.next b2).below
          have hc := Lib.hid (refCopy_rep (HBD.out _ wr.heap.size b3 (heap_alloc_at wr _)) (by simp [Mm.fresh]))
          have fin : Hid (∀ w2, CopyPost (wr.alloc (.cells (refCells (.slice A l.length cap) (.slice ra ram.length rc) (.slice sa scr.length sc) chosen pad pitch volume time 0 (.slice none 0 0)) 80)) M.fresh w2 → post (.returned (.tuple #[.pointer (some ⟨wr.heap.size + 1, 0, none⟩), .int .i64 0])) w2) := fun w2 hcp => by
            obtain ⟨hb2, S', r', hs'⟩ := hcp
            have e : (wr.alloc (.cells (refCells (.slice A l.length cap) (.slice ra ram.length rc) (.slice sa scr.length sc) chosen pad pitch volume time 0 (.slice none 0 0)) 80)).heap.size = wr.heap.size + 1 := by simp
            rw [e] at r'
            exact (PO.out _ _).2 ⟨b3.trans (hb2.mono b3.size), .inl ⟨hokI.out.2 rfl, _, S', rfl, r', fun i hi => Nat.le_trans b3.size (hs' i hi)⟩⟩
          clear hke hok b2 b3 hall hA
          go_wp2_with (fail)
          refine hc.out.mono ?_
          rintro e w2 ⟨rfl, hb2⟩
          have f2 := Lib.hid hb2
          clear hb2
          go_wp2_with (fail)
          exact fin.out _ f2.out
end Go.Proofs.Ytabeljpnmmfpgaa
