/-
  MemPlays, walked.
-/
import Derived.Test.YtabeljpnmmfpgaaMemPlaysG
namespace Go.Proofs.Ytabeljpnmmfpgaa
open Go.RowKit Go.MapKept
set_option linter.unusedVariables false
set_option linter.unusedSimpArgs false
attribute [local irreducible] bytesOf

theorem OwnRel.rowAt {w wr W0 : World} {l : List (Int × List Int)} {ia : Option Addr} {n ic : Nat} {g c : Nat → Nat} (h : OwnRel w wr l l.length (.slice ia n ic) g c) (hb : Below wr.heap.size wr W0) (h0 : 0 < l.length) :
    ∃ gi, ia = some ⟨gi, 0, none⟩ ∧ ∀ W, FillIn W0 W l g → ∀ i, i < l.length → W.cell? ⟨gi, i * 2 + 1, none⟩ = some (bankSl l g c i) := by
  rcases h.row.2 with ⟨_, h1⟩ | ⟨gi, cap, cur, e, hB, hh, h1, h2, h3, h4⟩
  · omega
  · cases e
    refine ⟨gi, rfl, fun W hF i hi => ?_⟩
    have hne : ∀ j, j < l.length → gi ≠ g j := fun j hj => by
      rcases (h.data j hj).2 with ⟨e0, _⟩ | ⟨q, cap', cur', e0, _, hh', _⟩
      · cases e0
      · cases e0; exact heap_ne hh hh' (cells_ne (by decide))
    have hW : W.heap[gi]? = some (.cells cur 37 (0, 0)) := by
      rw [hF.upd.block gi (by have := hb.size; have := heap_lt hh; omega) (fun ⟨j, hj, e⟩ => hne j hj e), hb.block gi (heap_lt hh)]; exact hh
    rw [cell_of hW, ← Array.getElem?_toList]
    have h5 := (bankCells_at l g c l.length i hi).2
    rw [← h4, List.getElem?_take] at h5
    split at h5
    · exact h5
    · cases h5

theorem FillIn.mem {w1 wx W : World} {l : List (Int × List Int)} {g : Nat → Nat} (h : FillIn wx W l g) (hg : ∀ i, i < l.length → g i < w1.heap.size) {b : Nat} {M : Mm} {S : Nat → Prop} (hm : MemRep wx b M S) (hS : ∀ x, S x → w1.heap.size ≤ x) : MemRep W b M S :=
  hm.upd h.upd (fun x hx ⟨i, hi, e⟩ => by have := hS x hx; have := hg i hi; omega)
theorem FillIn.ref {w1 wx W : World} {l : List (Int × List Int)} {g : Nat → Nat} (h : FillIn wx W l g) (hg : ∀ i, i < l.length → g i < w1.heap.size) {b : Nat} {M : Mm} {S : Nat → Prop} (hm : RefRep wx b M S) (hS : ∀ x, S x → w1.heap.size ≤ x) : RefRep W b M S :=
  hm.upd h.upd (fun x hx ⟨i, hi, e⟩ => by have := hS x hx; have := hg i hi; omega)
theorem OwnRel.glt {w wr : World} {l : List (Int × List Int)} {v : Value} {g c : Nat → Nat} (h : OwnRel w wr l l.length v g c) : ∀ i, i < l.length → w.heap.size ≤ g i ∧ g i < wr.heap.size := fun i hi => (h.data i hi).lt _ rfl

def PlaysInv (w wr : World) (q k : Nat) : Prop := Below w.heap.size w wr ∧ ∃ M b c S T, PairAt wr q w.heap.size (3 * k) M b c S T

theorem PlaysInv.step {w wr W' : World} {q k : Nat} (h : PlaysInv w wr q k) (hp : PlayPost wr q w.heap.size (3 * k) (.returned (.bool true)) W') : PlaysInv w W' q (k + 1) := by
  obtain ⟨hb, _⟩ := h
  obtain ⟨_, ⟨M, b, c, S, T, hP⟩, hu⟩ := hp
  exact ⟨hb.trans (hu.below hb.size (fun i hi => hi)), M, b, c, S, T, hP⟩

theorem plays_start {w w1 w2 w3 w5 wr w7 w8 : World} {l : List (Int × List Int)} {g : Nat → Nat} {rq : Nat} {S0 S1 T0 T1 : Nat → Prop} (b1 : Below w.heap.size w w1) (b2 : Below w1.heap.size w1 w2) (b3 : Below w2.heap.size w2 w3) (b35 : Below w3.heap.size w3 w5) (hF : FillIn w5 wr l g) (hg : ∀ i, i < l.length → w.heap.size ≤ g i ∧ g i < w1.heap.size)
    (b7 : Below wr.heap.size wr w7) (b8 : Below w7.heap.size w7 w8) (m0 : MemRep w2 (w1.heap.size + 1) (newMem l l.length) S0) (l0 : ∀ x, S0 x → w1.heap.size ≤ x) (mm : MemRep wr (w1.heap.size + 1) (newMem l l.length) S0)
    (r0 : RefRep w3 rq (newMem l l.length) T0) (k0 : ∀ x, T0 x → w2.heap.size ≤ x) (rr : RefRep wr rq (newMem l l.length) T0) (m1 : MemRep w7 wr.heap.size (newMem l l.length) S1) (l1 : ∀ x, S1 x → wr.heap.size ≤ x) (r1 : RefRep w8 w7.heap.size (newMem l l.length) T1) (k1 : ∀ x, T1 x → w7.heap.size ≤ x) :
    PlaysInv w (w8.alloc (.cells #[.pointer (some ⟨w1.heap.size + 1, 0, none⟩), .pointer (some ⟨wr.heap.size, 0, none⟩), .pointer (some ⟨rq, 0, none⟩), .pointer (some ⟨w7.heap.size, 0, none⟩)] 73)) w8.heap.size 0 := by
  have z1 := b1.size; have z2 := b2.size; have z3 := b3.size; have z5 := b35.size; have zr := hF.upd.size; have z7 := b7.size; have z8 := b8.size
  have bw5 : Below w.heap.size w w5 := b1.trans ((b2.mono z1).trans ((b3.mono (by omega)).trans (b35.mono (by omega))))
  have bwr : Below w.heap.size w wr := bw5.trans (hF.upd.below (by omega) (fun x ⟨i, hi, e⟩ => by have := hg i hi; omega))
  have bw8 : Below w.heap.size w w8 := bwr.trans ((b7.mono (by omega)).trans (b8.mono (by omega)))
  have br8 : Below wr.heap.size wr w8 := b7.trans (b8.mono z7)
  have ba : ∀ (o : Obj), Below w8.heap.size w8 (w8.alloc o) := fun o => (Below.refl _ _).alloc (Nat.le_refl _) _
  refine ⟨bw8.alloc (by omega) _, _, _, _, _, _, PairAt.start (M := newMem l l.length) (b0 := w1.heap.size + 1) (b1 := wr.heap.size) (c0 := rq) (c1 := w7.heap.size) (x1 := w2.heap.size) (x2 := wr.heap.size) (x3 := w7.heap.size) (x4 := w8.heap.size) (S0 := S0) (S1 := S1) (T0 := T0) (T1 := T1) (heap_alloc_at w8 _) ?_ ?_ ?_ ?_
    (fun x hx => ⟨by have := l0 x hx; omega, m0.lt x hx⟩) (fun x hx => ⟨k0 x hx, by have := r0.lt x hx; omega⟩) (fun x hx => ⟨l1 x hx, m1.lt x hx⟩) (fun x hx => ⟨k1 x hx, r1.lt x hx⟩) (Nat.le_refl _) (by omega) (by omega) z7 z8 rfl (newMem_chosen _ _)⟩
  · exact (mm.stays (fun x hx => br8.block x (mm.lt x hx))).stays (fun x hx => (ba _).block x (by have := mm.lt x hx; omega))
  · exact (m1.stays (fun x hx => b8.block x (m1.lt x hx))).stays (fun x hx => (ba _).block x (by have := m1.lt x hx; omega))
  · exact (rr.stays (fun x hx => br8.block x (rr.lt x hx))).stays (fun x hx => (ba _).block x (by have := rr.lt x hx; omega))
  · exact r1.stays (fun x hx => (ba _).block x (r1.lt x hx))

set_option maxRecDepth 100000 in
set_option maxHeartbeats 4000000 in
theorem memPlays_walk (w : World) (v vs : Value) (l : List (Int × List Int)) (dv : Nat → Value) (os : List Opv) (hb : BanksIn w v l dv) (hs : Small l) (ho : OpsIn w vs os) (hok : ∀ i, i < os.length → (os.getD i ⟨0, 0, 0, 0, 0, 0, 0⟩).Ok) (hlen : os.length ≤ 100000000) :
    Calls Try.prog 6 #[v, vs] w fun e w' => e = .returned (.bool true) ∧ Below w.heap.size w w' := by
  have hbk := hb.isB
  have HB := Lib.hid hb
  have HS := Lib.hid hs
  have HO := Lib.hid ho
  have HOK := Lib.hid hok
  have HIB := Lib.hid hbk
  obtain ⟨sa, sc, rfl, hsr⟩ := ho
  have HSR := Lib.hid hsr
  obtain ⟨A, cap, rfl, _⟩ := hb.row
  have hll := hs.1
  have CO : Hid (Calls Try.prog 8 #[.slice A l.length cap] w fun e w1 => ∃ (a : Option Addr) (cp : Nat) (g c : Nat → Nat), e = .returned (.slice a l.length cp) ∧ Hid (OwnRel w w1 l l.length (.slice a l.length cp) g c)) := by
    refine (ownBanks_any w _ l dv hb hs).mono ?_
    rintro e w1 ⟨v', g, c, rfl, h⟩
    obtain ⟨a, cp, rfl⟩ := sliceN h.row
    exact ⟨a, cp, g, c, rfl, h⟩
  clear hb hs hbk hsr hok
  by_cases hbo : banksOk l
  · have BO := Lib.hid hbo
    clear hbo
    go_enter Try.func6, Try.ntmps6
    go_wp2_with (first
      | (go_at_call 8; refine CO.out.mono ?_; rintro e w1 ⟨ia, ic, g, c, rfl, O1⟩)
      | (go_at_call 7; refine (new_any w1 _ l _ (O1.out.banks HIB.out) (by omega)).mono ?_; rintro e w2 ⟨hb2, ⟨_, rfl, S0, hS0, hl0⟩ | ⟨hn, _⟩⟩; rotate_left; (exact absurd BO.out hn); have B2 := Lib.hid hb2; have M0 := Lib.hid hS0; have L0 := Lib.hid hl0; clear hb2 hS0 hl0)
      | (go_at_call 31; refine (refNew_any w2 _ l dv ((HB.out.below O1.out.below).below B2.out) hll).mono ?_; rintro e w3 ⟨hb3, ⟨_, rq, T0, rfl, hT0, hl3⟩ | ⟨hn, _⟩⟩; rotate_left; (exact absurd BO.out hn); have B3 := Lib.hid hb3; have R0 := Lib.hid hT0; have K0 := Lib.hid hl3; clear hb3 hT0 hl3)
      | (go_at_call 32; refine (kept_any w3 _ _ l g c dv (((O1.out.banks HIB.out).below B2.out).below B3.out) ((O1.out.marked.below B2.out).below B3.out) (((HB.out.below O1.out.below).below B2.out).below B3.out) HS.out).mono ?_; rintro e w4 ⟨rfl, hq4⟩; have Q4 := Lib.hid hq4; clear hq4)
      | (go_at_call 9; refine (awake_any w4).mono ?_; rintro e w5 ⟨rfl, hb5⟩; have B5 := Lib.hid hb5; clear hb5))
    have B35 := Lib.hid (show Below w3.heap.size w3 w5 from Q4.out.below.trans (by rw [← Q4.out.heap]; exact B5.out))
    have B15 := Lib.hid (B2.out.trans ((B3.out.mono B2.out.size).trans (B35.out.mono (by have := B2.out.size; have := B3.out.size; omega))))
    have ST := Lib.hid (O1.out.fill B15.out)
    have HR := Lib.hid (O1.out.rowAt B15.out)
    go_loopw [51] (fun i wr => ∃ k : Nat, k ≤ l.length ∧ i = .int .i64 k ∧ FillIn w5 wr l g) (fun i _ => l.length - (intOf i).toNat)
    case atStart => exact ⟨0, Nat.zero_le _, rfl, ST.out⟩
    case round =>
      obtain ⟨k, hk, rfl, hrel⟩ := hrel
      by_cases hlt : k < l.length
      · obtain ⟨gi, rfl, hcell⟩ := HR.out (by omega)
        have hsm := HS.out.2 k
        have d0 := hcell wr hrel k hlt
        unfold bankSl at d0
        obtain ⟨ln, hln⟩ : ∃ x, x = (l.getD k (0, [])).2.length := ⟨_, rfl⟩
        rw [← hln] at d0 hsm
        have HLN := Lib.hid hln
        have Hrel := Lib.hid hrel
        have HC := Lib.hid hcell
        clear hrel hcell hln
        go_wp2_with (fail)
        obtain ⟨wo, rfl⟩ : ∃ wo : World, wo = wr := ⟨_, rfl⟩
        go_loopw [60] (fun j wr => ∃ m : Nat, m ≤ ln ∧ j = .int .i64 m ∧ FillIn w5 wr l g) (fun j _ => ln - (intOf j).toNat)
        case atStart => exact ⟨0, Nat.zero_le _, rfl, Hrel.out⟩
        case round =>
          obtain ⟨m, hm, rfl, hrel⟩ := hrel
          by_cases hlm : m < ln
          · have e0 := HC.out wr hrel k hlt
            unfold bankSl at e0
            rw [← HLN.out] at e0
            obtain ⟨cs, hcs, hsz⟩ := hrel.blk k hlt
            rw [← HLN.out] at hsz
            obtain ⟨z, hz⟩ : ∃ z, cs[m]? = some z := ⟨_, Array.getElem?_eq_getElem (by omega)⟩
            have e1 : wr.cell? ⟨g k, m, none⟩ = some z := by rw [cell_of hcs]; exact hz
            have e2 : wr.frozen? ⟨g k, m, none⟩ = false := free_of hcs m
            have Nx := Lib.hid (hrel.set (m := m) hlt (.int .u8 119))
            clear hrel hcs hsz hz
            go_wp2_with (fail)
            go_roundw
            case rel => exact ⟨m + 1, hlm, by go_num, Nx.out⟩
            case measure => simp [intOf]; omega
          · have Nx := Lib.hid hrel
            clear hrel
            go_wp2_with (fail)
            go_roundw
            case rel => exact ⟨k + 1, hlt, by go_num, Nx.out⟩
            case measure => simp [intOf]; omega
      · have F := Lib.hid hrel
        clear hrel
        have G1 := Lib.hid (fun i hi => (O1.out.glt i hi).2)
        have MM := Lib.hid (F.out.mem G1.out (((M0.out.stays (fun i hi => B3.out.block i (M0.out.lt i hi)))).stays (fun i hi => B35.out.block i (by have := M0.out.lt i hi; have := B3.out.size; omega))) L0.out)
        have RR := Lib.hid (F.out.ref G1.out (R0.out.stays (fun i hi => B35.out.block i (R0.out.lt i hi))) (fun x hx => by have := K0.out x hx; have := B2.out.size; omega))
        obtain ⟨nl, hnl⟩ := RR.out.nums
        have NL := Lib.hid hnl
        clear hnl
        go_wp2_with (first
          | (go_at_call 30; refine (memCopy_rep MM.out NL.out.range (show (0 : Nat) < 1000000000 by omega)).mono ?_; rintro e w7 ⟨rfl, hb7⟩; obtain ⟨hb7, S1, hS1, hl7⟩ := hb7; have B7 := Lib.hid hb7; have M1 := Lib.hid hS1; have L1 := Lib.hid hl7; clear hb7 hS1 hl7)
          | (go_at_call 33; refine (refCopy_rep (RR.out.below B7.out) (show (0 : Nat) < 1000000000 by omega)).mono ?_; rintro e w8 ⟨rfl, hb8, T1, hT1, hl8⟩; have B8 := Lib.hid hb8; have R1 := Lib.hid hT1; have K1 := Lib.hid hl8; clear hb8 hT1 hl8))
        have INV : Hid (PlaysInv w (w8.alloc (.cells #[.pointer (some ⟨w1.heap.size + 1, 0, none⟩), .pointer (some ⟨wr.heap.size, 0, none⟩), .pointer (some ⟨rq, 0, none⟩), .pointer (some ⟨w7.heap.size, 0, none⟩)] 73)) w8.heap.size 0) :=
          plays_start O1.out.below B2.out B3.out B35.out F.out (fun i hi => O1.out.glt i hi) B7.out B8.out M0.out L0.out MM.out R0.out K0.out RR.out M1.out L1.out R1.out K1.out
        clear HR ST NL
        generalize hq : w8.heap.size = q at INV ⊢
        clear hq
        go_loopw [13] (fun i wr => ∃ k : Nat, k ≤ 60 ∧ k ≤ os.length ∧ i = .int .i64 k ∧ PlaysInv w wr q k) (fun i _ => os.length - (intOf i).toNat)
        case atStart => exact ⟨0, by omega, Nat.zero_le _, rfl, INV.out⟩
        case round =>
          obtain ⟨k, hk, hk2, rfl, hrel⟩ := hrel
          by_cases hlt : k < 60 ∧ k < os.length
          · obtain ⟨h60, hos⟩ := hlt
            obtain ⟨ab, ao, rfl, hcc⟩ := HSR.out (by omega)
            obtain ⟨hbw, M, b, cz, S, T, hP⟩ := hrel
            have okk := HOK.out k hos
            have hc : ∀ (j : Nat) (u : Value), (os.getD k ⟨0, 0, 0, 0, 0, 0, 0⟩).cells[j]? = some u → wr.cell? ⟨ab, ao + k * 7 + j, none⟩ = some u := fun j u hu => cell_keep hbw (hcc k hos j u hu) (World.block_lt_of_cell? w _ (hcc k hos j u hu))
            obtain ⟨o, hoe⟩ : ∃ o, o = os.getD k ⟨0, 0, 0, 0, 0, 0, 0⟩ := ⟨_, rfl⟩
            rw [← hoe] at okk hc
            obtain ⟨kd, wh, at_, x, y, cc, n⟩ := o
            have c0 := hc 0 _ rfl
            have c1 := hc 1 _ rfl
            have c2 := hc 2 _ rfl
            have c3 := hc 3 _ rfl
            have c4 := hc 4 _ rfl
            have c5 := hc 5 _ rfl
            have c6 := hc 6 _ rfl
            rw [Nat.add_zero] at c0
            have OKK := Lib.hid okk
            have HP := Lib.hid hP
            have HBW := Lib.hid hbw
            clear hoe hc hcc okk hP hbw
            go_wp2_with (go_at_call 34; refine (plays_any HP.out ⟨kd, wh, at_, x, y, cc, n⟩ OKK.out (by omega)).mono ?_; rintro e w9 ⟨rfl, hpp⟩; have Nx := Lib.hid (PlaysInv.step ⟨HBW.out, M, b, cz, S, T, HP.out⟩ ⟨rfl, hpp⟩); clear hpp)
            go_roundw
            case rel => exact ⟨k + 1, by omega, hos, by go_num, Nx.out⟩
            case measure => simp [intOf]; omega
          · have HI := Lib.hid hrel
            clear hrel
            have hcase : (k < os.length ∧ 60 ≤ k) ∨ os.length ≤ k := by omega
            clear hlt
            obtain ⟨wq, rfl⟩ : ∃ wq : World, wq = wr := ⟨_, rfl⟩
            rcases hcase with ⟨h1, h2⟩ | h1
            all_goals
              go_wp2_with (fail)
              go_loopw [14] (fun i wx => ∃ j : Nat, j ≤ 2 ∧ i = .int .i64 j ∧ Below wq.heap.size wq wx) (fun i _ => 2 - (intOf i).toNat)
              case atStart => exact ⟨0, by omega, rfl, Below.refl _ _⟩
              case round =>
                obtain ⟨j, hj2, rfl, hrel⟩ := hrel
                by_cases hj : j < 2
                · obtain ⟨hbw, M, b, cz, S, T, hP0⟩ := HI.out
                  have hP := hP0.below hrel
                  have HP := Lib.hid hP
                  have HRL := Lib.hid hrel
                  have j0 : (0 : Int) ≤ (j : Int) := by omega
                  have j2 : (j : Int) < 2 := by omega
                  obtain ⟨nl, hn⟩ := (hP.ref j hj).nums
                  have hT : (M j).tones.length < 1000000000 := by have := hP.tones j hj; omega
                  obtain ⟨I, hI⟩ : ∃ I, I = memImg (M j) nl := ⟨_, rfl⟩
                  have lenI : Hid (I.banks.length ≤ 16) := by rw [hI, memImg_len]; exact hn.len
                  have C1 : Hid (∀ Wx, Below wr.heap.size wr Wx → Calls Try.prog 22 #[.pointer (some ⟨b j, 0, none⟩)] Wx fun e w' => ∃ (a1 a2 a3 : Option Addr) (n1 c1 n2 c2 n3 c3 : Nat), e = .returned (.agg #[.slice a1 n1 c1, .slice a2 n2 c2, .slice a3 n3 c3, .int .u8 I.chosen, .int .u8 I.pad, .int .u16 I.pitch, .int .u8 I.volume, .int .u16 I.time]) ∧ Hid (∃ dv, ImgIn w' I (.slice a1 n1 c1) (.slice a2 n2 c2) (.slice a3 n3 c3) dv) ∧ Hid (Below Wx.heap.size Wx w')) := fun Wx hx => by
                    refine (image_img ((HP.out.below hx).mem j hj) hn).mono ?_
                    rintro e w1 ⟨bv, r, s, dv, rfl, h1, h2, h3⟩
                    rw [← hI] at h1 ⊢
                    obtain ⟨⟨a1, c1, rfl⟩, ⟨a2, c2, rfl⟩, ⟨a3, c3, rfl⟩⟩ := h1.slices
                    exact ⟨a1, a2, a3, _, c1, _, c2, _, c3, rfl, ⟨dv, h1⟩, h2⟩
                  have C2 : Hid (∀ (W' : World) (a1 a2 a3 : Option Addr) (n1 c1 n2 c2 n3 c3 : Nat), Calls Try.prog 21 #[.agg #[.slice a1 n1 c1, .slice a2 n2 c2, .slice a3 n3 c3, .int .u8 I.chosen, .int .u8 I.pad, .int .u16 I.pitch, .int .u8 I.volume, .int .u16 I.time]] W' fun e w' => e = .returned (.agg #[.slice a1 n1 c1, .slice a2 n2 c2, .slice a3 n3 c3, .int .u8 I.chosen, .int .u8 I.pad, .int .u16 I.pitch, .int .u8 I.volume, .int .u16 I.time]) ∧ Hid (Below W'.heap.size W' w')) := fun W' a1 a2 a3 n1 c1 n2 c2 n3 c3 =>
                    image_any W' I _ _ _ ⟨_, _, _, rfl⟩ ⟨_, _, _, rfl⟩ ⟨_, _, _, rfl⟩
                  have C3 : Hid (∀ Wx, Below wr.heap.size wr Wx → Calls Try.prog 35 #[.pointer (some ⟨cz j, 0, none⟩)] Wx fun e w' => ∃ (a1 a2 a3 : Option Addr) (n1 c1 n2 c2 n3 c3 : Nat), e = .returned (.agg #[.slice a1 n1 c1, .slice a2 n2 c2, .slice a3 n3 c3, .int .u8 I.chosen, .int .u8 I.pad, .int .u16 I.pitch, .int .u8 I.volume, .int .u16 I.time]) ∧ Hid (∃ dv, ImgIn w' I (.slice a1 n1 c1) (.slice a2 n2 c2) (.slice a3 n3 c3) dv) ∧ Hid (Below Wx.heap.size Wx w')) := fun Wx hx => by
                    refine (refImage_img ((HP.out.below hx).ref j hj) hT hn).mono ?_
                    rintro e w' ⟨bx, bv, br, bs, rfl, h1, h2, h3⟩
                    rw [← hI] at h2 ⊢
                    obtain ⟨⟨a1, c1, rfl⟩, _, _⟩ := h2.slices
                    exact ⟨a1, _, _, _, c1, _, _, _, _, rfl, ⟨_, h2⟩, h3⟩
                  have C4 : Hid (∀ (Wx : World) (a1 a2 a3 d1 d2 d3 : Option Addr) (n1 c1 n2 c2 n3 c3 m1 e1 m2 e2 m3 e3 : Nat) (dv du : Nat → Value), ImgIn Wx I (.slice a1 n1 c1) (.slice a2 n2 c2) (.slice a3 n3 c3) dv → ImgIn Wx I (.slice d1 m1 e1) (.slice d2 m2 e2) (.slice d3 m3 e3) du → Calls Try.prog 20 #[.agg #[.slice a1 n1 c1, .slice a2 n2 c2, .slice a3 n3 c3, .int .u8 I.chosen, .int .u8 I.pad, .int .u16 I.pitch, .int .u8 I.volume, .int .u16 I.time], .agg #[.slice d1 m1 e1, .slice d2 m2 e2, .slice d3 m3 e3, .int .u8 I.chosen, .int .u8 I.pad, .int .u16 I.pitch, .int .u8 I.volume, .int .u16 I.time]] Wx fun e w' => e = .returned (.bool true) ∧ Hid (Below Wx.heap.size Wx w')) := fun Wx a1 a2 a3 d1 d2 d3 n1 c1 n2 c2 n3 c3 m1 e1 m2 e2 m3 e3 dv du h1 h2 =>
                    sameImage_any Wx I _ _ _ _ _ _ dv du h1 h2 (by have := lenI.out; omega)
                  have C5 : Hid (∀ Wx, Below wr.heap.size wr Wx → Calls Try.prog 23 #[.pointer (some ⟨b j, 0, none⟩)] Wx fun e w' => ∃ (ta : Option Addr) (tn tc : Nat), e = .returned (.slice ta tn tc) ∧ Hid (TonesIn w' (.slice ta tn tc) (M j).tones) ∧ Hid (Below Wx.heap.size Wx w')) := fun Wx hx => by
                    refine (tones_rep ((HP.out.below hx).mem j hj) hT).mono ?_
                    rintro e w' ⟨v', rfl, ho, hb⟩
                    obtain ⟨ta, tc, rfl⟩ := sliceN ho
                    exact ⟨ta, _, tc, rfl, TonesIn.of_own ho, hb⟩
                  have FT : Hid (∃ (ra : Option Addr) (rn rc : Nat), wr.cell? ⟨cz j, 9, none⟩ = some (.slice ra rn rc) ∧ ∀ Wx, Below wr.heap.size wr Wx → TonesIn Wx (.slice ra rn rc) (M j).tones) := by
                    obtain ⟨rl, rbx, rbv, rbr, rbs, rtv, RA⟩ := hP.ref j hj
                    have h9 := RA.cells.2.2.2.2.2.2.2.2.2.1
                    have ht := RA.tones
                    obtain ⟨ra, rc, rfl⟩ := sliceN ht
                    exact ⟨ra, _, rc, h9, fun Wx hx => TonesIn.of_own (ownsRow_heap ht (fun k hk => hx.block k (ht.lt k hk).2))⟩
                  obtain ⟨ra, rn, rc, h9, hTI⟩ := FT.out
                  have TI := Lib.hid hTI
                  have C6 : Hid (∀ (Wx : World) (ta : Option Addr) (tn tc : Nat), TonesIn Wx (.slice ta tn tc) (M j).tones → TonesIn Wx (.slice ra rn rc) (M j).tones → Calls Try.prog 36 #[.slice ta tn tc, .slice ra rn rc] Wx fun e w' => e = .returned (.bool true) ∧ Hid (Below Wx.heap.size Wx w')) := fun Wx ta tn tc h1 h2 =>
                    (sameTones_any Wx _ _ (M j).tones h1 h2 (by omega)).mono fun e w' ⟨e1, hq⟩ => ⟨e1, hq.below⟩
                  obtain ⟨s1, s2⟩ := hP.slots hj
                  have KK : Hid (∀ Wx, Below wr.heap.size wr Wx → Wx.cell? ⟨q, j, none⟩ = some (.pointer (some ⟨b j, 0, none⟩)) ∧ Wx.cell? ⟨q, 2 + j, none⟩ = some (.pointer (some ⟨cz j, 0, none⟩)) ∧ Wx.cell? ⟨cz j, 9, none⟩ = some (.slice ra rn rc)) := fun Wx hx =>
                    ⟨cell_keep hx s1 (World.block_lt_of_cell? _ _ s1), cell_keep hx s2 (World.block_lt_of_cell? _ _ s2), cell_keep hx h9 (World.block_lt_of_cell? _ _ h9)⟩
                  have K0 : Hid (Below wr.heap.size wr wr.drew) := Quiet.below ⟨1, rfl⟩
                  have KS := Lib.hid (KK.out _ K0.out)
                  clear hP hP0 hbw hn hI hT hTI FT s1 s2 h9 hrel
                  go_wp2_with (fail)
                  go_region_held3 (fun w' => w'.cell? ⟨q, j, none⟩ = some (.pointer (some ⟨b j, 0, none⟩)) ∧ w'.cell? ⟨q, 2 + j, none⟩ = some (.pointer (some ⟨cz j, 0, none⟩)) ∧ w'.cell? ⟨cz j, 9, none⟩ = some (.slice ra rn rc))
                    (first | with_reducible exact KS.out | with_reducible exact (KK.out _ L1.out) | with_reducible exact (KK.out _ L2.out) | with_reducible exact (KK.out _ L3.out) | with_reducible exact (KK.out _ L4.out) | with_reducible exact (KK.out _ L5.out) | with_reducible exact (KK.out _ L6.out) | fail)
                    (first
                      | (go_at_call 22; refine Calls.mono (C1.out _ K0.out) ?_; rintro e y1 ⟨a1, a2, a3, n1, c1, n2, c2, n3, c3, rfl, G1, B1'⟩; have L1 := Lib.hid (K0.out.trans (B1'.out.mono K0.out.size)))
                      | (go_at_call 21; refine Calls.mono (C2.out y1 a1 a2 a3 n1 c1 n2 c2 n3 c3) ?_; rintro e y2 ⟨rfl, B2'⟩; have L2 := Lib.hid (L1.out.trans (B2'.out.mono L1.out.size)))
                      | (go_at_call 35; refine Calls.mono (C3.out y2 L2.out) ?_; rintro e y3 ⟨d1, d2, d3, m1, e1, m2, e2, m3, e3, rfl, G3, B3'⟩; have L3 := Lib.hid (L2.out.trans (B3'.out.mono L2.out.size)))
                      | (go_at_call 20; obtain ⟨dv1, g1⟩ := G1.out; obtain ⟨du1, g3⟩ := G3.out; have GA := Lib.hid ((g1.below B2'.out).below B3'.out); have GB := Lib.hid g3; clear g1 g3; refine Calls.mono (C4.out y3 a1 a2 a3 d1 d2 d3 n1 c1 n2 c2 n3 c3 m1 e1 m2 e2 m3 e3 _ _ GA.out GB.out) ?_; rintro e y4 ⟨rfl, B4'⟩; have L4 := Lib.hid (L3.out.trans (B4'.out.mono L3.out.size)))
                      | (go_at_call 23; refine Calls.mono (C5.out y4 L4.out) ?_; rintro e y5 ⟨ta, tn, tc, rfl, G5, B5'⟩; have L5 := Lib.hid (L4.out.trans (B5'.out.mono L4.out.size)))
                      | (go_at_call 36; refine Calls.mono (C6.out y5 ta tn tc G5.out (TI.out _ L5.out)) ?_; rintro e y6 ⟨rfl, B6'⟩; have L6 := Lib.hid (L5.out.trans (B6'.out.mono L5.out.size))))
                  all_goals
                    go_wp2_with (fail)
                    go_roundw
                    case rel => exact ⟨j + 1, by omega, by go_num, HRL.out.trans (L6.out.mono HRL.out.size)⟩
                    case measure => simp [intOf]; omega
                · have hbw := HI.out.1
                  have FIN := Lib.hid (hbw.trans (hrel.mono hbw.size))
                  clear hbw hrel
                  go_wp2_with (fail)
                  go_ret
                  exact ⟨rfl, FIN.out⟩
  · have BO := Lib.hid hbo
    clear hbo
    go_enter Try.func6, Try.ntmps6
    go_wp2_with (first
      | (go_at_call 8; refine CO.out.mono ?_; rintro e w1 ⟨ia, ic, g, c, rfl, O1⟩)
      | (go_at_call 7; refine (new_any w1 _ l _ (O1.out.banks HIB.out) (by omega)).mono ?_; rintro e w2 ⟨hb2, ⟨hn, _⟩ | ⟨_, rfl⟩⟩; (exact absurd hn BO.out); have B2 := Lib.hid hb2; clear hb2)
      | (go_at_call 31; refine (refNew_any w2 _ l dv ((HB.out.below O1.out.below).below B2.out) hll).mono ?_; rintro e w3 ⟨hb3, ⟨hn, _⟩ | ⟨_, rfl⟩⟩; (exact absurd hn BO.out); have B3 := Lib.hid hb3; clear hb3)
      | (go_at_call 32; refine (kept_any w3 _ _ l g c dv (((O1.out.banks HIB.out).below B2.out).below B3.out) ((O1.out.marked.below B2.out).below B3.out) (((HB.out.below O1.out.below).below B2.out).below B3.out) HS.out).mono ?_; rintro e w4 ⟨rfl, hq4⟩; have Q4 := Lib.hid hq4; clear hq4)
      | (go_at_call 9; refine (awake_any w4).mono ?_; rintro e w5 ⟨rfl, hb5⟩; have B5 := Lib.hid hb5; clear hb5))
    go_ret
    have z1 := O1.out.below.size
    have z2 := B2.out.size
    have B35 : Below w3.heap.size w3 w5 := Q4.out.below.trans (by rw [← Q4.out.heap]; exact B5.out)
    exact ⟨rfl, O1.out.below.trans ((B2.out.mono z1).trans ((B3.out.mono (by omega)).trans (B35.mono (by have := B3.out.size; omega))))⟩
end Go.Proofs.Ytabeljpnmmfpgaa
