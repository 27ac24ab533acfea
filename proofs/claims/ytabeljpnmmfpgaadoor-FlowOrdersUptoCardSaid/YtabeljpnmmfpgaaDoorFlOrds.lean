/-
  FlowOrders: walked.
-/
import Derived.Test.YtabeljpnmmfpgaaDoorFlOrdL
import Derived.Test.YtabeljpnmmfpgaaDoorFlApart
namespace Go.Proofs.YtabeljpnmmfpgaaDoor
open Go.RowKit Go.MapKept Go.Maps Go.Sort
set_option linter.unusedVariables false
set_option linter.unusedSimpArgs false

theorem mkd_of_rowU {W : World} {base b0 : Nat} {v : Value} {l : List Int} (h : RowU W b0 v l) (hb : base ≤ b0) (hl : l.length ≤ 1000000) : Mkd shC W base 23 1 v [] 0 := by
  obtain ⟨A, c, rfl⟩ := h.slice
  refine ⟨⟨l.map (Value.int .u16), ownsRow_lower h hb, fun t u hu => ?_, fun t ht => absurd ht (Nat.not_lt_zero _)⟩, hl, Nat.zero_le _⟩
  rw [List.getElem?_map] at hu
  obtain ⟨y, _, rfl⟩ := Option.map_eq_some_iff.1 hu
  exact ⟨y, rfl⟩
theorem book_cells {W : World} {base a b c d e f : Nat} {v0 v1 v2 : Value} {l0 l2 : List Int} (h0 : RowU W a v0 l0) (h1 : RowU W c v1 l0) (h2 : RowU W e v2 l2) (hl0 : l0.length ≤ 1000000) (hl2 : l2.length ≤ 1000000) (hba : base ≤ a)
    (g0 : ∀ k, v0.ownBlock = some k → k < b) (g1 : ∀ k, v1.ownBlock = some k → k < d) (g2 : ∀ k, v2.ownBlock = some k → k < f) (hab : a ≤ b) (hbc : b ≤ c) (hcd : c ≤ d) (hde : d ≤ e) (hef : e ≤ f) (hf : f ≤ W.heap.size) :
    BookAt ((W.alloc (.cells #[v0, v1, v2] 51)).alloc (.cells #[.slice none 0 0, .slice none 0 0, .slice (some ⟨W.heap.size, 0, none⟩) 3 3] 47)) base (W.heap.size + 1) [] [v0, v1, v2] [] none (some ⟨W.heap.size, 0, none⟩) none 0 3 0 ∧ (∀ k ∈ bks [v0, v1, v2], a ≤ k) := by
  have bb : Below W.heap.size W ((W.alloc (.cells #[v0, v1, v2] 51)).alloc (.cells #[.slice none 0 0, .slice none 0 0, .slice (some ⟨W.heap.size, 0, none⟩) 3 3] 47)) := b_alloc (b_alloc (Below.refl _ _) _) _
  obtain ⟨nd, rg⟩ := bks3 (v0 := v0) (v1 := v1) (v2 := v2) (fun k hk => ⟨(ownsRow_own h0 k hk).2, g0 k hk⟩) (fun k hk => ⟨(ownsRow_own h1 k hk).2, g1 k hk⟩) (fun k hk => ⟨(ownsRow_own h2 k hk).2, g2 k hk⟩) hab hbc hcd hde hef
  have hx : ((W.alloc (.cells #[v0, v1, v2] 51)).alloc (.cells #[.slice none 0 0, .slice none 0 0, .slice (some ⟨W.heap.size, 0, none⟩) 3 3] 47)).heap[W.heap.size + 1]? = some (.cells #[.slice none 0 0, .slice none 0 0, .slice (some ⟨W.heap.size, 0, none⟩) 3 3] 47 (0, 0)) := alloc_at _ (by simp)
  have hr : ((W.alloc (.cells #[v0, v1, v2] 51)).alloc (.cells #[.slice none 0 0, .slice none 0 0, .slice (some ⟨W.heap.size, 0, none⟩) 3 3] 47)).heap[W.heap.size]? = some (.cells #[v0, v1, v2] 51 (0, 0)) := heap_alloc_old (heap_alloc_at W _)
  refine ⟨⟨⟨by rw [cell_of hx]; rfl, fun i hi => absurd hi (Nat.not_lt_zero _)⟩, ⟨by rw [cell_of hx]; rfl, fun i hi => ⟨W.heap.size, 0, rfl, ?_⟩⟩, ⟨by rw [cell_of hx]; rfl, fun i hi => absurd hi (Nat.not_lt_zero _)⟩, fun j hj => absurd hj (Nat.not_lt_zero _), fun j hj => ?_, fun j hj => absurd hj (Nat.not_lt_zero _), List.nodup_nil, nd, List.nodup_nil, (fun b hb => by cases hb), (fun b hb => by cases hb), (fun b hb h => by cases h), fun k hk => ⟨(fun h => by cases h), (fun h => ?_), (fun h => by cases h)⟩, Nat.zero_le _, (by simp), Nat.zero_le _⟩, fun k hk => (rg k hk).1⟩
  · rw [cell_of hr, Nat.zero_add]
    match i, hi with
    | 0, _ => rfl
    | 1, _ => rfl
    | 2, _ => rfl
  · match j, hj with
    | 0, _ => exact mkd_of_rowU (h0.below bb) hba hl0
    | 1, _ => exact mkd_of_rowU (h1.below bb) (by omega) hl0
    | 2, _ => exact mkd_of_rowU (h2.below bb) (by omega) hl2
  · have := (rg k h).2
    rcases hk with rfl | ⟨ad, e1, _⟩ | ⟨ad, e1, e2⟩ | ⟨ad, e1, _⟩
    · omega
    · cases e1
    · cases e1
      have e3 : k = W.heap.size := e2
      omega
    · cases e1

set_option maxRecDepth 100000 in
set_option maxHeartbeats 8000000 in
theorem orders_any (w : World) (A : Option Addr) (c : Nat) (ws : List FW) (h : FWin w A ws) (hc : ws.length ≤ c) (hm : ws.length ≤ 2000000) (hA : A = none → c = 0) (ht : Tab w) :
    Calls Tryd.prog 7 #[.slice A ws.length c] w fun e w' => e = .returned (.bool true) ∧ Below w.heap.size w w' := by
  have HF0 := Lib.hid h
  have HT0 := Lib.hid ht
  have HA0 := Lib.hid hA
  obtain ⟨N0, hN0⟩ : ∃ N, N = ws.length := ⟨_, rfl⟩
  rw [← hN0] at hc hm ⊢
  have HN0 := Lib.hid hN0
  clear h ht hN0 hA
  go_enter Tryd.func7, Tryd.ntmps7
  go_upto_if 18 with fail
  go_cut [0] from 16 (fun v wx => ∃ (l : List FW) (n c' : Nat), v = .slice A n c' ∧ Hid (n = l.length) ∧ n ≤ 60 ∧ wx = w ∧ Hid (FWin w A l) ∧ Hid (A = none → n = 0 ∧ c' = 0))
  case first =>
    by_cases hs : 60 < N0
    · have d : decide ((60 : Int) < (N0 : Int)) = true := by simp; omega
      obtain ⟨b, off, rfl, _⟩ := HF0.out.c0 (k := 0) (by have := HN0.out; omega)
      go_wp2_with (fail)
      go_meet
      exact ⟨ws.take 60, 60, c, rfl, Lib.hid (by have := HN0.out; simp; omega), by omega, rfl, Lib.hid (HF0.out.take 60), Lib.hid (fun e => by cases e)⟩
    · have d : decide ((60 : Int) < (N0 : Int)) = false := by simp; omega
      go_wp2_with (fail)
      go_meet
      exact ⟨ws, N0, c, rfl, HN0, by omega, rfl, HF0, Lib.hid (fun e => by have := HA0.out e; exact ⟨by omega, this⟩)⟩
  case rest =>
    obtain ⟨l, n, c1, rfl, HN, h60, hwc, HF, HA⟩ := hcut
    subst hwc
    obtain ⟨wz, hwz⟩ : ∃ x, x = wc := ⟨_, rfl⟩
    subst hwz
    clear HF0 HN0 hc hm HA0
    go_wp2_with (fail)
    refine (fixed_any wz HT0.out).mono ?_
    rintro e Wf ⟨rfl, bf⟩
    have BF := Lib.hid bf
    have HFf := Lib.hid (HF.out.below bf)
    clear bf
    go_wp2_with (fail)
    have CONV := Lib.hid (conv_any Wf A c1 l HFf.out (by have := HN.out; omega))
    rw [← HN.out] at CONV
    refine CONV.out.mono ?_
    rintro e W1 ⟨g, cap, ts, rfl, tl, b1, rw1, cv, nd⟩
    have B1 := Lib.hid (b_then BF.out b1)
    have NDB : Hid (∀ (i : Nat) (hi : i < ts.length) ad, (ts[i]).ca = some ad → ad.block ≠ g ∧ ad.block < W1.heap.size) := fun i hi ad ead => by
      have hk : ad.block ∈ (ts[i]).blks := by simp [WT.blks, WT.vc, Value.ownBlock, ead]
      exact ⟨fun e => (List.nodup_cons.1 nd).1 (by rw [← e]; exact mem_blks hi hk), ((cv i hi (by rw [← tl]; exact hi)).lt _ hk).1⟩
    have CA := Lib.hid (show CvAll W1 Wf.heap.size g cap ts l from ⟨tl, rw1, cv⟩)
    have TL := Lib.hid tl
    have LR := Lib.hid (conv_lreps tl cv (fun x hx => by
      obtain ⟨i, hi, rfl⟩ := List.getElem_of_mem hx
      obtain ⟨b, off, ia, ic, ca, cc, e, q⟩ := HF.out i hi
      exact q.small))
    have gf : Wf.heap.size ≤ g := (ownsRow_some CA.out.row).1
    have sf := BF.out.size
    have xl : (ordArg l).length = n := by rw [ordArg_len, HN.out]
    obtain ⟨r, hr⟩ := ord_some 70 (ordArg l) [] (by omega)
    have HR := Lib.hid hr
    have RW := Lib.hid CA.out.rw_
    rw [← HN.out] at RW
    have HF1 := Lib.hid (HF.out.below B1.out)
    have CWF := Lib.hid (CA.out.fwin HF1.out)
    have ORD : Hid (∀ W, Below W1.heap.size W1 W → Calls Tryd.prog 26 #[.slice (some ⟨g, 0, none⟩) n cap] W fun e w' => OrdPost W r e w') := fun W hW =>
      order_some W _ _ ts (ordArg l) (RW.out.move (fun k hk => hW.block k (RW.out.own k hk).1)) ⟨LR.out.len, fun i h1 h2 => by
        obtain ⟨p1, p2, p3⟩ := LR.out.rep i h1 h2
        exact ⟨p1, p2, p3.below hW⟩⟩ (by omega) 70 r HR.out
    have RORD : Hid (∀ W, Below W1.heap.size W1 W → Calls Tryd.prog 28 #[.slice A n c1] W fun e w' => ROrdPost W r e w') := fun W hW => by
      rw [HN.out]
      exact refOrd_any W A c1 l (HF1.out.below hW) (fun e => by have := HA.out e; rw [← HN.out]; exact this) (by have := HN.out; omega) 70 r HR.out
    have WHO : Hid (∀ W, Below W1.heap.size W1 W → Calls Tryd.prog 30 #[.slice (some ⟨g, 0, none⟩) n cap, .slice A n c1] W fun e w' => e = .returned (.bool true) ∧ Below W.heap.size W w') := fun W hW => by
      rw [HN.out]
      exact whole_any W A Wf.heap.size g cap c1 ts l (CA.out.below hW) (HF1.out.below hW) (by have := HN.out; omega)
    have LL := Lib.hid (lst_len hr)
    rw [xl] at LL
    clear CONV hr b1 cv tl rw1 xl nd
    rw [← HN.out]
    go_wp2_with (fail)
    refine (ORD.out W1 (Below.refl _ _)).mono ?_
    rintro e W2 hp
    obtain ⟨b2, vg, rfl, rg⟩ := ord_one hp
    clear hp
    have B2 := Lib.hid b2
    obtain ⟨Ag, cg, rfl⟩ := rg.slice
    obtain ⟨ng, hng⟩ : ∃ ng, ng = (lst r).length := ⟨_, rfl⟩
    have HNG := Lib.hid hng
    rw [← hng] at rg ⊢
    have RG := Lib.hid rg
    obtain ⟨rz, hrz⟩ : ∃ z, z = ez r := ⟨_, rfl⟩
    obtain ⟨ra, hra⟩ : ∃ z, z = ea r := ⟨_, rfl⟩
    have HRZ := Lib.hid hrz
    have HRA := Lib.hid hra
    rw [← hrz, ← hra]
    clear rg hng b2 hrz hra
    go_wp2_with (fail)
    have VA := Lib.hid (VdAt.fresh W2 rz ra)
    have BV2 := Lib.hid (b_alloc B2.out (.cells #[.int .i64 rz, .int .u16 ra] 33))
    have BX2 := Lib.hid (b_alloc (Below.refl W2.heap.size W2) (.cells #[.int .i64 rz, .int .u16 ra] 33))
    refine (RORD.out _ BV2.out).mono ?_
    rintro e W3 hp
    obtain ⟨b3, vw, rfl, rgw⟩ := rord_one hp
    clear hp
    rw [← HRZ.out, ← HRA.out]
    have VA3 := Lib.hid (VA.out.below b3)
    have B23 := Lib.hid (b_then BX2.out b3)
    have B3 := Lib.hid (b_then BV2.out b3)
    have s3 : W2.heap.size + 1 ≤ W3.heap.size := by have := b3.size; simpa using this
    have RG3 := Lib.hid (RG.out.move (W := W3) (fun k hk => B23.out.block k (ownsRow_own RG.out k hk).1))
    obtain ⟨Aw, cw, rfl⟩ := rgw.slice
    rw [← HNG.out] at rgw ⊢
    have RW3 := Lib.hid rgw
    have gl2 := Lib.hid (fun k hk => ownsRow_own RG.out k hk)
    obtain ⟨X, hX⟩ : ∃ X, X = W2.heap.size := ⟨_, rfl⟩
    have HXX := Lib.hid hX
    rw [← hX] at VA3 ⊢
    clear rgw b3 VA BV2 BX2 hX RG
    go_wp2_with (fail)
    refine (ORD.out W3 B3.out).mono ?_
    rintro e W4 hp
    obtain ⟨b4, va, rfl, rga⟩ := ord_one hp
    clear hp
    rw [← HRZ.out, ← HRA.out]
    obtain ⟨Aa, ca, rfl⟩ := rga.slice
    rw [← HNG.out] at rga ⊢
    have RA4 := Lib.hid rga
    have B34 := Lib.hid b4
    have B4 := Lib.hid (b_then B3.out b4)
    have VA4 := Lib.hid (VA3.out.below b4)
    have RG4 := Lib.hid (RG3.out.move (W := W4) (fun k hk => b4.block k (ownsRow_own RG3.out k hk).1))
    have RW4 := Lib.hid (RW3.out.move (W := W4) (fun k hk => b4.block k (ownsRow_own RW3.out k hk).1))
    clear rga b4 VA3 RG3 RW3
    go_wp2_with (fail)
    obtain ⟨V4, hV4⟩ : ∃ V, V = W4.alloc (.cells #[.int .i64 rz, .int .u16 ra] 33) := ⟨_, rfl⟩
    have BV4 : Hid (Below W4.heap.size W4 V4) := by rw [hV4]; exact b_alloc (Below.refl _ _) _
    rw [← hV4]
    clear hV4
    have B5 := Lib.hid (b_then B4.out BV4.out)
    have VA5 := Lib.hid (VA4.out.below BV4.out)
    have RG5 := Lib.hid (RG4.out.move (W := V4) (fun k hk => BV4.out.block k (ownsRow_own RG4.out k hk).1))
    have RW5 := Lib.hid (RW4.out.move (W := V4) (fun k hk => BV4.out.block k (ownsRow_own RW4.out k hk).1))
    have hng60 : ng ≤ 60 := by have := HNG.out; have := LL.out; omega
    have ATS : Hid (∀ (W : World) base Aq cq, RowU W base (.slice Aq ng cq) (lst r) → AtsIn W Aq (lst r)) := fun W base Aq cq hq => hq.atsIn (by have := HNG.out; omega)
    have SC : Hid (∀ (W : World) Ap cp Aq cq, AtsIn W Ap (lst r) → AtsIn W Aq (lst r) → Calls Tryd.prog 29 #[.slice Ap ng cp, .slice Aq ng cq] W fun e w' => e = .returned (.bool true) ∧ Below W.heap.size W w') := fun W Ap cp Aq cq h1 h2 => by
      have := sameCells_any W Ap Aq ng cp ng cq (lst r) (lst r) HNG.out HNG.out h1 h2
      rwa [decide_eq_true rfl] at this
    refine (SC.out V4 Ag cg Aw cw (ATS.out _ _ _ _ RG5.out) (ATS.out _ _ _ _ RW5.out)).mono ?_
    rintro e W5 ⟨rfl, b5⟩
    have B6 := Lib.hid (b_then B5.out b5)
    have VA6 := Lib.hid (VA5.out.below b5)
    have v0 := VA6.out.c0
    have v1 := VA6.out.c1
    have B45 := Lib.hid (b_then BV4.out b5)
    clear b5 VA4 VA5 RG5 RW5
    go_wp2_with (fail)
    refine (WHO.out W5 B6.out).mono ?_
    rintro e W6 ⟨rfl, b6⟩
    have B7 := Lib.hid (b_then B6.out b6)
    have B46 := Lib.hid (b_then B45.out b6)
    have VA7 := Lib.hid (VA6.out.below b6)
    have HF7 := Lib.hid (HF1.out.below B7.out)
    clear b6 VA6 v0 v1 B6 B45 B5
    go_upto_region 11 with fail
    obtain ⟨ts0, LR0, NW0, IN0⟩ := fwin_ts HF.out
    have BZ6 := Lib.hid (b_then B1.out B7.out)
    have HTL0 : Hid (ts0.length = n) := by
      show ts0.length = n
      rw [LR0.len, ordArg_len, HN.out]
    have LRR := Lib.hid LR0
    have NWR := Lib.hid NW0
    have INR := Lib.hid IN0
    clear LR0 NW0 IN0
    go_cut [11] from 63 (fun v wx => ∃ gt ct, v = .slice (some ⟨gt, 0, none⟩) n ct ∧ Hid (Below W6.heap.size W6 wx ∧ RowX wx W6.heap.size (.slice (some ⟨gt, 0, none⟩) n ct) ts0))
    case first =>
      obtain ⟨i2, hi2, hp0, hp1, hp2⟩ := info_parts infoX
      have b0 := Lib.hid (b_alloc (Below.refl W6.heap.size W6) (.cells #[] 76))
      have RW0 : Hid ((W6.alloc (.cells #[] 76)).ownsRow W6.heap.size 76 3 (.slice (some ⟨W6.heap.size, 0, none⟩) 0 0) 0 []) := ⟨rfl, .inr ⟨W6.heap.size, 0, #[], rfl, Nat.le_refl _, heap_alloc_at _ _, Nat.le_refl _, by simp [maxLen], rfl, rfl⟩⟩
      cases A with
      | none =>
        obtain ⟨rfl, rfl⟩ := HA.out rfl
        have FN : Hid (Below W6.heap.size W6 (W6.alloc (.cells #[] 76)) ∧ RowX (W6.alloc (.cells #[] 76)) W6.heap.size (.slice (some ⟨W6.heap.size, 0, none⟩) 0 0) ts0) := by
          have e0 : ts0 = [] := List.eq_nil_of_length_eq_zero HTL0.out
          refine ⟨b0.out, ?_⟩
          rw [e0]; exact RW0.out
        go_wp2_with (first
          | (at_builtin; refine wpList_append_none rfl _ _ 36 rfl W6.heap.size 76 i2 3 Tryd.underlying36 hi2 (.slice (some ⟨W6.heap.size, 0, none⟩) 0 0) 0 [] rfl RW0.out rfl ?_))
        go_meet
        exact ⟨_, _, rfl, FN⟩
      | some ad =>
        have NW2 : Hid (∀ j u, (ts0.flatMap WT.cells)[j]? = some u → (W6.alloc (.cells #[] 76)).cell? (ad.add j) = some u) := fun j u hj => keep_cell (NWR.out ad rfl j u hj) (b_then BZ6.out b0.out)
        have LN := Lib.hid (show (ts0.flatMap WT.cells).length = n * 3 by rw [flat3_len, HTL0.out])
        have FIN : Hid (∀ (v' : Value) (w3 : World), (W6.alloc (.cells #[] 76)).grownBy w3 (Value.slice (some ⟨W6.heap.size, 0, none⟩) 0 0).ownBlock → w3.ownsRow W6.heap.size 76 3 v' (0 + n) ([] ++ ts0.flatMap WT.cells) → (v'.ownBlock = (Value.slice (some ⟨W6.heap.size, 0, none⟩) 0 0).ownBlock ∨ v'.ownBlock = some (W6.alloc (.cells #[] 76)).heap.size) → ∃ gt ct, v' = .slice (some ⟨gt, 0, none⟩) n ct ∧ Hid (Below W6.heap.size W6 w3 ∧ RowX w3 W6.heap.size (.slice (some ⟨gt, 0, none⟩) n ct) ts0)) := fun v' w3 hg ho hat => by
          have hu := Upd.of_grown hg
          obtain ⟨Av, cv, hv⟩ := ownsRow_slice ho
          have hA2 : ∃ gt, Av = some ⟨gt, 0, none⟩ := by
            rcases ho.2 with ⟨e1, _⟩ | ⟨g', cap', cur, e1, _⟩
            · rw [e1] at hat
              rcases hat with hat | hat <;> cases hat
            · rw [hv] at e1
              injection e1 with e1
              exact ⟨g', e1⟩
          obtain ⟨gt, rfl⟩ := hA2
          rw [Nat.zero_add] at hv ho
          refine ⟨gt, cv, hv, b0.out.trans (hu.below (by simp) (fun i hi => ?_)), ?_⟩
          · have : i = W6.heap.size := by simpa [Value.ownBlock] using hi
            omega
          · unfold RowX
            rw [HTL0.out, ← hv]
            exact ho
        go_wp2_with (first
          | (at_builtin; refine wpList_append_own_at _ rfl _ _ 36 rfl W6.heap.size 76 i2 _ 3 56 Tryd.underlying36 hi2 hp0 hp1 hp2 rfl (by decide) (.slice (some ⟨W6.heap.size, 0, none⟩) 0 0) 0 [] rfl RW0.out ad n c1 (ts0.flatMap WT.cells) rfl LN.out NW2.out (wt_one ts0) (by simp only [maxLen]; omega) (by omega) (by simp) ?_; intro v' w3 ho hgr _ hat; obtain ⟨gt, ct, rfl, FN⟩ := FIN.out v' w3 hgr ho hat; clear ho hgr hat))
        go_meet
        exact ⟨_, _, rfl, FN⟩
    case rest =>
      obtain ⟨gt, ct, rfl, HT⟩ := hcut
      obtain ⟨W7, hW7⟩ : ∃ x, x = wc := ⟨_, rfl⟩
      subst hW7
      have gl := Lib.hid (RW.out.own g rfl)
      have gtl := Lib.hid (HT.out.2.own gt rfl)
      have RWW := Lib.hid (RW.out.move (W := W7) (fun k hk => (b_then B7.out HT.out.1).block k (RW.out.own k hk).1))
      go_wp2_with (fail)
      have TLN : Hid (ts.length = n) := TL.out.trans HN.out.symm
      have s16 := B7.out.size
      have hgg : g < gt := by have := gl.out.1; have := gtl.out.2; omega
      go_loopw [12] (fun i wr => ∃ k : Nat, k ≤ n ∧ i = .int .i64 (k : Int) ∧ Hid (Upd W7 wr (fun b => b = g ∨ b = gt) ∧ RowW wr Wf.heap.size (.slice (some ⟨g, 0, none⟩) n cap) (mapN tx ts k) ∧ RowX wr W6.heap.size (.slice (some ⟨gt, 0, none⟩) n ct) (mapN tx ts0 k))) (fun i _ => n - (intOf i).toNat)
      case atStart => exact ⟨0, Nat.zero_le _, rfl, Upd.refl _ _, by rw [mapN_zero]; exact RWW.out, by rw [mapN_zero]; exact HT.out.2⟩
      case round =>
        obtain ⟨k, hk, rfl, hR⟩ := hrel
        by_cases hlt : k < n
        · have h1 : k < ts.length := by rw [TLN.out]; exact hlt
          have h2 : k < ts0.length := by rw [HTL0.out]; exact hlt
          obtain ⟨g', eg, c0, _, _⟩ := hR.out.2.1.at_ (i := k) (by rw [mapN_len]; exact h1)
          cases eg
          obtain ⟨g', eg, d0, _, _⟩ := hR.out.2.2.at_ (i := k) (by rw [mapN_len]; exact h2)
          cases eg
          rw [mapN_at h1] at c0
          rw [mapN_at h2] at d0
          have hkn : (k : Int) < (n : Int) := by omega
          obtain ⟨x, hx⟩ : ∃ x : Int, x = ((ts[k]).at_.val : Int) := ⟨_, rfl⟩
          obtain ⟨y, hy⟩ : ∃ y : Int, y = ((ts0[k]).at_.val : Int) := ⟨_, rfl⟩
          rw [← hx] at c0
          rw [← hy] at d0
          have F1 : wr.frozen? ⟨g, k * 3, none⟩ = false := by
            obtain ⟨cur, hcur, _⟩ := rowW_block hR.out.2.1
            exact free_of hcur _
          have F2 : (wr.setCell ⟨g, k * 3, none⟩ (.int .u16 (bits .xor .u16 x 2))).frozen? ⟨gt, k * 3, none⟩ = false := by
            rw [frozen_set]
            rcases hR.out.2.2.2 with ⟨e1, _⟩ | ⟨g', cap', cur, e1, _, hh, _⟩
            · cases e1
            · cases e1
              exact free_of hh _
          have d1 : (wr.setCell ⟨g, k * 3, none⟩ (.int .u16 (bits .xor .u16 x 2))).cell? ⟨gt, k * 3, none⟩ = some (.int .u16 y) := by
            rw [← d0]
            unfold World.cell?
            rw [heap_set_far (by show gt ≠ g; omega)]
          have NX : Hid (Upd W7 ((wr.setCell ⟨g, k * 3, none⟩ (.int .u16 (bits .xor .u16 x 2))).setCell ⟨gt, k * 3, none⟩ (.int .u16 (bits .xor .u16 y 2))) (fun b => b = g ∨ b = gt) ∧
              RowW ((wr.setCell ⟨g, k * 3, none⟩ (.int .u16 (bits .xor .u16 x 2))).setCell ⟨gt, k * 3, none⟩ (.int .u16 (bits .xor .u16 y 2))) Wf.heap.size (.slice (some ⟨g, 0, none⟩) n cap) (mapN tx ts (k + 1)) ∧
              RowX ((wr.setCell ⟨g, k * 3, none⟩ (.int .u16 (bits .xor .u16 x 2))).setCell ⟨gt, k * 3, none⟩ (.int .u16 (bits .xor .u16 y 2))) W6.heap.size (.slice (some ⟨gt, 0, none⟩) n ct) (mapN tx ts0 (k + 1))) := by
            refine ⟨(hR.out.1.setCell (fun _ => .inl rfl) _).setCell (fun _ => .inr rfl) _, ?_, ?_⟩
            · exact ownsRow_keep (own_tx hR.out.2.1 h1 hx) (fun k hk => by
                have : g = k := by
                  have hk' : (some g : Option Nat) = some k := hk
                  exact Option.some.inj hk'
                subst this
                exact heap_set_far (by show g ≠ gt; omega))
            · refine own_tx (ownsRow_keep hR.out.2.2 (fun k hk => ?_)) h2 hy
              have : gt = k := by
                have hk' : (some gt : Option Nat) = some k := hk
                exact Option.some.inj hk'
              subst this
              exact heap_set_far (by show gt ≠ g; omega)
          clear hR hx hy d0
          go_wp2_with (fail)
          go_roundw
          case rel => exact ⟨k + 1, hlt, by go_num, NX⟩
          case measure => first | (simp [intOf]; done) | (simp [intOf]; omega)
        · have hkn : ¬ (k : Int) < (n : Int) := by omega
          obtain rfl : n = k := by omega
          have U8 := Lib.hid hR.out.1
          have R8 : Hid (RowW wr Wf.heap.size (.slice (some ⟨g, 0, none⟩) n cap) (ts.map tx)) := by
            have := hR.out.2.1
            rwa [show n = ts.length from TLN.out.symm, mapN_all, TLN.out] at this
          have X8 : Hid (RowX wr W6.heap.size (.slice (some ⟨gt, 0, none⟩) n ct) (ts0.map tx)) := by
            have := hR.out.2.2
            rwa [show n = ts0.length from HTL0.out.symm, mapN_all, HTL0.out] at this
          obtain ⟨W8, hW8⟩ : ∃ x, x = wr := ⟨_, rfl⟩
          subst hW8
          clear hR RWW
          have sg : wz.heap.size ≤ g := by omega
          have B67 := HT.out.1.size
          have BZ8 : Hid (Below wz.heap.size wz W8) := (b_then BZ6.out HT.out.1).trans (U8.out.below (by have := BZ6.out.size; omega) (fun i hi => by rcases hi with rfl | rfl <;> omega))
          have L8 : Hid (LReps W8 (ts.map tx) (ordArg (l.map tf))) := tx_lreps LR.out (fun i h1 h2 => by
            obtain ⟨_, _, p3⟩ := LR.out.rep i h1 h2
            refine (p3.below (b_then B7.out HT.out.1)).upd U8.out (fun ad ead hs => ?_)
            have := NDB.out i h1 ad ead
            rcases hs with hs | hs
            · exact this.1 hs
            · have := gtl.out.2; omega)
          have FT8 : Hid (FWin W8 (some ⟨gt, 0, none⟩) (l.map tf)) := turned_fwin HF.out LRR.out NWR.out INR.out BZ8.out X8.out
          have xl2 : (ordArg (l.map tf)).length = n := by rw [ordArg_len, List.length_map, HN.out]
          obtain ⟨r2, hr2⟩ := ord_some 70 (ordArg (l.map tf)) [] (by omega)
          have HR2 := Lib.hid hr2
          have LL2 := Lib.hid (lst_len hr2)
          rw [xl2] at LL2
          have O8 := Lib.hid (order_some W8 _ _ (ts.map tx) (ordArg (l.map tf)) R8.out L8.out (by omega) 70 r2 hr2)
          clear hr2 L8
          go_wp2_with (fail)
          refine O8.out.mono ?_
          rintro e W9 hp
          obtain ⟨b9, vt, rfl, rgt⟩ := ord_one hp
          clear hp O8
          obtain ⟨At, cT, rfl⟩ := rgt.slice
          obtain ⟨nt, hnt⟩ : ∃ nt, nt = (lst r2).length := ⟨_, rfl⟩
          have HNT := Lib.hid hnt
          rw [← hnt] at rgt ⊢
          have RT9 := Lib.hid rgt
          have B89 := Lib.hid b9
          obtain ⟨rz2, hrz⟩ : ∃ z, z = ez r2 := ⟨_, rfl⟩
          obtain ⟨ra2, hra⟩ : ∃ z, z = ea r2 := ⟨_, rfl⟩
          have HRZ2 := Lib.hid hrz
          have HRA2 := Lib.hid hra
          rw [← hrz, ← hra]
          -- the verdict's cells
          have hXl : X < W3.heap.size := by have := HXX.out; omega
          have s34 := B34.out.size
          have s46 := B46.out.size
          have s1X : W1.heap.size ≤ X := by have := HXX.out; have := B2.out.size; omega
          have hXg : X ≠ g := by have := gl.out.1; omega
          have hXgt : X ≠ gt := by have := gtl.out.2; omega
          have HX9 : Hid (W9.heap[X]? = some (.cells #[.int .i64 rz, .int .u16 ra] 33 (0, 0))) :=
            (b9.block X (by have := U8.out.size; omega)).trans ((U8.out.block X (by omega) (by rintro (h | h); exact hXg h; exact hXgt h)).trans ((HT.out.1.block X (by omega)).trans VA7.out))
          obtain ⟨⟨x0, x1⟩, y0, y1⟩ := cells2 HX9.out
          clear rgt b9 hnt hrz hra
          go_wp2_with (fail)
          obtain ⟨WX, hWX⟩ : ∃ x, x = (W9.setCell ⟨X, 0, none⟩ (.int .i64 rz2)).setCell ⟨X, 1, none⟩ (.int .u16 ra2) := ⟨_, rfl⟩
          rw [← hWX]
          have HXX2 : Hid (VdAt WX X rz2 ra2) := by
            rw [hWX]
            exact heap_set_cell (heap_set_cell HX9.out 0 _) 1 _
          have U9 : Hid (Upd W9 WX (fun b => b = X)) := by
            rw [hWX]
            have q0 : Upd W9 W9 (fun b => b = X) := Upd.refl _ _
            exact (q0.setCell (fun _ => rfl) _).setCell (fun _ => rfl) _
          clear hWX x0 x1 y0 y1
          have sX9 := U9.out.size
          have sz1 := B1.out.size
          have s89 := B89.out.size
          have s78 := U8.out.size
          have BZX : Hid (Below wz.heap.size wz WX) := (b_then BZ8.out B89.out).trans (U9.out.below (by have := BZ8.out.size; omega) (fun i hi => by omega))
          have XX : Hid (RowX WX W6.heap.size (.slice (some ⟨gt, 0, none⟩) n ct) (ts0.map tx)) := X8.out.move (fun k hk => by
            have : gt = k := by
              have hk' : (some gt : Option Nat) = some k := hk
              exact Option.some.inj hk'
            subst this
            have := (X8.out.own gt rfl).1
            exact (U9.out.block gt (by omega) (fun e => hXgt e.symm)).trans (B89.out.block gt this))
          have FTX : Hid (FWin WX (some ⟨gt, 0, none⟩) (l.map tf)) := turned_fwin HF.out LRR.out NWR.out INR.out BZX.out XX.out
          have lfn : Hid ((l.map tf).length = n) := by show _ = _; rw [List.length_map, HN.out]
          have RO2 := Lib.hid (refOrd_any WX (some ⟨gt, 0, none⟩) ct (l.map tf) FTX.out (fun e => by cases e) (by have := lfn.out; omega) 70 r2 HR2.out)
          rw [lfn.out] at RO2
          refine RO2.out.mono ?_
          rintro e W10 hp
          obtain ⟨b10, vo, rfl, rgo⟩ := rord_one hp
          clear hp RO2
          obtain ⟨Ao, co, rfl⟩ := rgo.slice
          rw [← HNT.out] at rgo ⊢
          rw [← HRZ2.out, ← HRA2.out]
          have RO10 := Lib.hid rgo
          have s10 := b10.size
          have MV : Hid (∀ k, k < W4.heap.size → k ≠ g → k ≠ X → W10.heap[k]? = W4.heap[k]?) := fun k hk hkg hkX => by
            have hkt : k ≠ gt := by have := gtl.out.2; omega
            exact (b10.block k (by omega)).trans ((U9.out.block k (by omega) hkX).trans ((B89.out.block k (by omega)).trans ((U8.out.block k (by omega) (by rintro (h | h); exact hkg h; exact hkt h)).trans ((HT.out.1.block k (by omega)).trans (B46.out.block k hk)))))
          have RG10 : Hid (RowU W10 W1.heap.size (.slice Ag ng cg) (lst r)) := RG4.out.move (fun k hk => by
            have q := gl2.out k hk
            have := gl.out.1
            have := HXX.out
            exact MV.out k (ownsRow_own RG4.out k hk).1 (by omega) (by omega))
          have RW10 := Lib.hid (RW4.out.move (W := W10) (fun k hk => by
            have q := ownsRow_own RW4.out k hk
            have q2 : W2.heap.size + 1 ≤ k := by have := q.2; simpa using this
            have := gl.out.1
            have := HXX.out
            have := B2.out.size
            exact MV.out k q.1 (by omega) (by omega)))
          have RA10 : Hid (RowU W10 W3.heap.size (.slice Aa ng ca) (lst r)) := RA4.out.move (fun k hk => by
            have q := ownsRow_own RA4.out k hk
            have := gl.out.1
            exact MV.out k q.1 (by omega) (by omega))
          have RT10 : Hid (RowU W10 W8.heap.size (.slice At nt cT) (lst r2)) := RT9.out.move (fun k hk => by
            have q := ownsRow_own RT9.out k hk
            exact (b10.block k (by omega)).trans (U9.out.block k (by omega) (by omega)))
          have VX10 := Lib.hid (HXX2.out.below b10)
          have v0 := VX10.out.c0
          have v1 := VX10.out.c1
          have hnt60 : nt ≤ 60 := by have := HNT.out; have := LL2.out; omega
          have SC2 : Hid (∀ (W : World) Ap cp Aq cq, AtsIn W Ap (lst r2) → AtsIn W Aq (lst r2) → Calls Tryd.prog 29 #[.slice Ap nt cp, .slice Aq nt cq] W fun e w' => e = .returned (.bool true) ∧ Below W.heap.size W w') := fun W Ap cp Aq cq h1 h2 => by
            have := sameCells_any W Ap Aq nt cp nt cq (lst r2) (lst r2) HNT.out HNT.out h1 h2
            rwa [decide_eq_true rfl] at this
          have AT2 : Hid (∀ (W : World) base Aq cq, RowU W base (.slice Aq nt cq) (lst r2) → AtsIn W Aq (lst r2)) := fun W base Aq cq hq => hq.atsIn (by have := HNT.out; omega)
          have BZ10 := Lib.hid (b_then BZX.out b10)
          have GA4 := Lib.hid (fun k hk => (ownsRow_own RA4.out k hk).1)
          have GT9 := Lib.hid (fun k hk => (ownsRow_own RT9.out k hk).1)
          clear rgo b10 RG4 RW4 RA4 RT9 HXX2 FT8 FTX XX X8 R8
          go_wp2_with (fail)
          refine (SC2.out W10 At cT Ao co (AT2.out _ _ _ _ RT10.out) (AT2.out _ _ _ _ RO10.out)).mono ?_
          rintro e W11 ⟨rfl, b11⟩
          have v0 := (VX10.out.below b11).c0
          have v1 := (VX10.out.below b11).c1
          have RG11 := Lib.hid (RG10.out.below b11)
          have RW11 := Lib.hid (RW10.out.below b11)
          have RA11 := Lib.hid (RA10.out.below b11)
          have RT11 := Lib.hid (RT10.out.below b11)
          have BZ11 := Lib.hid (b_then BZ10.out b11)
          have s11 := b11.size
          clear b11 RT10 RG10 RW10 RA10 VX10 BZ10 RO10
          go_wp2_with (fail)
          refine (SC.out W11 Ag cg Aw cw (ATS.out _ _ _ _ RG11.out) (ATS.out _ _ _ _ RW11.out)).mono ?_
          rintro e W12 ⟨rfl, b12⟩
          have RG12 := Lib.hid (RG11.out.below b12)
          have RW12 := Lib.hid (RW11.out.below b12)
          have RA12 := Lib.hid (RA11.out.below b12)
          have RT12 := Lib.hid (RT11.out.below b12)
          have BZ12 := Lib.hid (b_then BZ11.out b12)
          have s12 := b12.size
          clear b12 RT11 RG11 RW11 RA11 BZ11 v0 v1
          go_wp2_with (fail)
          refine (SC.out W12 Aa ca Aw cw (ATS.out _ _ _ _ RA12.out) (ATS.out _ _ _ _ RW12.out)).mono ?_
          rintro e W13 ⟨rfl, b13⟩
          have RG13 := Lib.hid (RG12.out.below b13)
          have RA13 := Lib.hid (RA12.out.below b13)
          have RT13 := Lib.hid (RT12.out.below b13)
          have BZ13 := Lib.hid (b_then BZ12.out b13)
          have s13 := b13.size
          clear b13 RT12 RG12 RW12 RA12 BZ12
          go_wp2_with (fail)
          have BK := Lib.hid (book_cells (base := wz.heap.size) (b := W2.heap.size) (d := W4.heap.size) (f := W9.heap.size) RG13.out RA13.out RT13.out (by rw [← HNG.out]; omega) (by rw [← HNT.out]; omega) sz1
            (fun k hk => (gl2.out k hk).1) GA4.out GT9.out (B2.out.size) (by omega) s34 (by omega) s89 (by omega))
          have BF2 := Lib.hid (show Below wz.heap.size wz ((W13.alloc (.cells #[.slice Ag ng cg, .slice Aa ng ca, .slice At nt cT] 51)).alloc (.cells #[.slice none 0 0, .slice none 0 0, .slice (some ⟨W13.heap.size, 0, none⟩) 3 3] 47)) from b_alloc (b_alloc BZ13.out _) _)
          have sb := BF2.out.size
          refine (apart_any _ wz.heap.size _ _ _ _ _ _ _ _ _ _ BK.out.1 sb).mono ?_
          rintro e W14 ⟨rfl, hu⟩
          have FIN : Hid (Below wz.heap.size wz W14) := BF2.out.trans (hu.below sb (fun i hi => by
            rcases hi with hi | hi | hi
            · cases hi
            · have := BK.out.2 i hi; omega
            · cases hi))
          clear hu
          go_wp2_with (fail)
          go_ret
          exact ⟨rfl, FIN.out⟩
end Go.Proofs.YtabeljpnmmfpgaaDoor
