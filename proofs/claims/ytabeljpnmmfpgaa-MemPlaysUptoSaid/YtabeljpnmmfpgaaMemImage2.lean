/-
  (*mem.Memory).Image: the walk.
-/
import Derived.Test.YtabeljpnmmfpgaaMemImage
import Derived.Deep.RegionHeld3
import Derived.Deep.AppendLies
import Derived.Sort.AtCall
namespace Go.Proofs.Ytabeljpnmmfpgaa
open Go.RowKit Go.MapKept
set_option linter.unusedVariables false
set_option linter.unusedSimpArgs false

set_option maxRecDepth 100000 in
set_option maxHeartbeats 4000000 in
theorem image_rep {b : Nat} {M : Mm} {S : Nat → Prop} {w : World} (h : MemRep w b M S) (hk : ∀ n g, M.bank n = some g → 0 ≤ n ∧ n < 16) :
    Calls Try.prog 22 #[.pointer (some ⟨b, 0, none⟩)] w (ImgPost w M) := by
  obtain ⟨i1, hj, hy0, hy1, hy2⟩ := info_parts infoBank
  obtain ⟨cs, bm, es, clk, bf, tv, H⟩ := h
  have HH := Lib.hid H
  have hc := fun (ox : Option Nat) (W : World) (hW : MkO w W ox) => (H.below hW.below)
  have cl : ∀ ox W, MkO w W ox → Calls Try.prog 40 #[.slice (some ⟨b, 1, none⟩) 16384 16384] W fun e w' => ∃ a c, e = .returned (.slice a 16384 c) ∧ Hid (BytesIn w' (.slice a 16384 c) (bytesOf M.ram 16384) ∧ Blk w w' 5 (.slice a 16384 c)) ∧ Hid (Below W.heap.size W w') ∧ Hid (MkO w w' ox) := fun ox W hW =>
    (cloneBytes_any W _ (bytesOf M.ram 16384) (by rw [bytesOf_length]; omega) (hc ox W hW).ramBytes).mono (by
      rintro e w' ⟨v', rfl, ho, hb⟩
      have hby := BytesIn.of_own rfl ho
      have hf := Blk.of_own ho hW.lt
      obtain ⟨a, c, rfl, q1, q2⟩ := hby
      have hby2 : BytesIn w' (.slice a (bytesOf M.ram 16384).length c) (bytesOf M.ram 16384) := ⟨a, c, rfl, q1, q2⟩
      rw [bytesOf_length] at hf hby2
      exact ⟨a, c, by rw [bytesOf_length], ⟨hby2, hf⟩, hb, hW.next hb⟩)
  have sc : ∀ ox W, MkO w W ox → Calls Try.prog 29 #[.pointer (some ⟨b, 0, none⟩)] W fun e w' => ∃ g, e = .returned (.slice (some ⟨g, 0, none⟩) 3072 3072) ∧ Hid (BytesIn w' (.slice (some ⟨g, 0, none⟩) 3072 3072) (bytesOf M.scr 3072) ∧ Blk w w' 85 (.slice (some ⟨g, 0, none⟩) 3072 3072)) ∧ Hid (Below W.heap.size W w') ∧ Hid (MkO w w' ox) := fun ox W hW =>
    (screen_rep ⟨_, _, _, _, _, _, hc ox W hW⟩).mono (by
      rintro e w' ⟨rfl, hby, ⟨cs', hcs, hcz⟩, hb⟩
      have hlt := hW.lt
      exact ⟨_, rfl, ⟨hby, fun b o n c e => by cases e; exact ⟨hlt, _, _, hcs, rfl, rfl, Nat.le_refl _, by omega⟩⟩, hb, hW.next hb⟩)
  have cells : ∀ ox W, MkO w W ox → W.cell? ⟨b, 19457, none⟩ = some (.int .u8 M.chosen) ∧ W.cell? ⟨b, 19458, none⟩ = some (.int .u8 M.pad) ∧ W.cell? ⟨b, 19459, none⟩ = some (.int .u8 M.volume) ∧ W.cell? ⟨b, 19460, none⟩ = some (.int .u16 M.pitch) ∧ W.cell? ⟨b, 19461, none⟩ = some (.int .u16 M.time) := fun ox W hW =>
    ⟨(hc ox W hW).at_ 19457 (by omega), (hc ox W hW).at_ 19458 (by omega), (hc ox W hW).at_ 19459 (by omega), (hc ox W hW).at_ 19460 (by omega), (hc ox W hW).at_ 19461 (by omega)⟩
  have hbw := H.lt b H.sb
  have cells2 : ∀ W X v0 v1 v2 v3 v4 v5 v6 v7, MkO w W (some X) → ((((((((W.setCell ⟨X, 0, none⟩ v0).setCell ⟨X, 1, none⟩ v1).setCell ⟨X, 2, none⟩ v2).setCell ⟨X, 3, none⟩ v3).setCell ⟨X, 4, none⟩ v4).setCell ⟨X, 5, none⟩ v5).setCell ⟨X, 6, none⟩ v6).setCell ⟨X, 7, none⟩ v7).cell? ⟨b, 19457, none⟩ = some (.int .u8 M.chosen) ∧ ((((((((W.setCell ⟨X, 0, none⟩ v0).setCell ⟨X, 1, none⟩ v1).setCell ⟨X, 2, none⟩ v2).setCell ⟨X, 3, none⟩ v3).setCell ⟨X, 4, none⟩ v4).setCell ⟨X, 5, none⟩ v5).setCell ⟨X, 6, none⟩ v6).setCell ⟨X, 7, none⟩ v7).cell? ⟨b, 19458, none⟩ = some (.int .u8 M.pad) ∧ ((((((((W.setCell ⟨X, 0, none⟩ v0).setCell ⟨X, 1, none⟩ v1).setCell ⟨X, 2, none⟩ v2).setCell ⟨X, 3, none⟩ v3).setCell ⟨X, 4, none⟩ v4).setCell ⟨X, 5, none⟩ v5).setCell ⟨X, 6, none⟩ v6).setCell ⟨X, 7, none⟩ v7).cell? ⟨b, 19459, none⟩ = some (.int .u8 M.volume) ∧ ((((((((W.setCell ⟨X, 0, none⟩ v0).setCell ⟨X, 1, none⟩ v1).setCell ⟨X, 2, none⟩ v2).setCell ⟨X, 3, none⟩ v3).setCell ⟨X, 4, none⟩ v4).setCell ⟨X, 5, none⟩ v5).setCell ⟨X, 6, none⟩ v6).setCell ⟨X, 7, none⟩ v7).cell? ⟨b, 19460, none⟩ = some (.int .u16 M.pitch) ∧ ((((((((W.setCell ⟨X, 0, none⟩ v0).setCell ⟨X, 1, none⟩ v1).setCell ⟨X, 2, none⟩ v2).setCell ⟨X, 3, none⟩ v3).setCell ⟨X, 4, none⟩ v4).setCell ⟨X, 5, none⟩ v5).setCell ⟨X, 6, none⟩ v6).setCell ⟨X, 7, none⟩ v7).cell? ⟨b, 19461, none⟩ = some (.int .u16 M.time) := by
    intro W X v0 v1 v2 v3 v4 v5 v6 v7 hW
    have hX := (hW.x X rfl).1
    have hne : X ≠ b := by omega
    obtain ⟨k1, k2, k3, k4, k5⟩ := cells _ W hW
    refine ⟨?_, ?_, ?_, ?_, ?_⟩
    all_goals
      iterate 8 rw [World.cell?_setCell_other _ _ _ _ (by simp [hne])]
      assumption
  have ST : Hid (MkO w (w.alloc (.cells #[.slice none 0 0, .slice none 0 0, .slice none 0 0, .int .u8 0, .int .u8 0, .int .u16 0, .int .u8 0, .int .u16 0] 49)).drew none) := (MkO.start w).next (Quiet.below ⟨1, rfl⟩)
  have STX : Hid (MkO w ((w.alloc (.cells #[.slice none 0 0, .slice none 0 0, .slice none 0 0, .int .u8 0, .int .u8 0, .int .u16 0, .int .u8 0, .int .u16 0] 49)).alloc (.cells #[.slice none 0 0, .slice none 0 0, .slice none 0 0, .int .u8 0, .int .u8 0, .int .u16 0, .int .u8 0, .int .u16 0] 49)).drew (some (w.heap.size + 1))) := by
    have h := (MkO.start w).addX.next (Quiet.below ⟨1, rfl⟩)
    have e : (w.alloc (.cells zImg 49)).heap.size = w.heap.size + 1 := by simp
    rw [e] at h
    exact h
  have T := Lib.hid (cells _ _ ST.out)
  have TX := Lib.hid (cells _ _ STX.out)
  have CL := Lib.hid cl; have SC := Lib.hid sc; have CE := Lib.hid cells; have CE2 := Lib.hid cells2
  clear cl sc cells cells2 hc H hbw
  obtain ⟨ch, hch⟩ : ∃ x, x = M.chosen := ⟨_, rfl⟩
  obtain ⟨pd, hpd⟩ : ∃ x, x = M.pad := ⟨_, rfl⟩
  obtain ⟨vo, hvo⟩ : ∃ x, x = M.volume := ⟨_, rfl⟩
  obtain ⟨pi, hpi⟩ : ∃ x, x = M.pitch := ⟨_, rfl⟩
  obtain ⟨ti, hti⟩ : ∃ x, x = M.time := ⟨_, rfl⟩
  rw [← hch, ← hpd, ← hvo, ← hpi, ← hti] at T TX CE CE2
  have NM := Lib.hid (And.intro hch (And.intro hpd (And.intro hvo (And.intro hpi hti))))
  clear hch hpd hvo hpi hti
  go_enter Try.func22, Try.ntmps22
  go_wp2_with (fail)
  go_cut [3] (fun p wx => ∃ X r s, p = .pointer (some ⟨X, 0, none⟩) ∧ Hid (ImgAt w wx M X (.slice none 0 0) r s))
  case first =>
    go_region_held3 (fun w' => w'.cell? ⟨b, 19457, none⟩ = some (.int .u8 ch) ∧ w'.cell? ⟨b, 19458, none⟩ = some (.int .u8 pd) ∧ w'.cell? ⟨b, 19459, none⟩ = some (.int .u8 vo) ∧ w'.cell? ⟨b, 19460, none⟩ = some (.int .u16 pi) ∧ w'.cell? ⟨b, 19461, none⟩ = some (.int .u16 ti))
      (first | with_reducible exact T.out | with_reducible exact TX.out | with_reducible exact (CE.out _ _ B1.out) | with_reducible exact (CE.out _ _ B2.out) | with_reducible exact (CE2.out _ _ _ _ _ _ _ _ _ _ B2.out) | exact (CE.out _ _ (B1.out.next ((Below.refl _ _).alloc (Nat.le_refl _) _))) | exact (CE.out _ _ (B2.out.next ((Below.refl _ _).alloc (Nat.le_refl _) _))))
      (first
      | (go_at_call 40; refine Calls.mono (CL.out ?_ _ ?_) ?_; rotate_left; (first | exact ST.out | exact STX.out); rintro e w1 ⟨a1, c1, rfl, I1, L1, B1⟩)
      | (go_at_call 29; refine Calls.mono (SC.out ?_ _ ?_) ?_; rotate_left; (first | exact B1.out | exact B1.out.addX); rintro e w2 ⟨g2, rfl, I2, L2, B2⟩; first | (obtain ⟨s0, s1, s2, s3, s4, s5, s6, s7, sf⟩ := cells8 (B2.out.x _ rfl).2) | skip))
    all_goals
      obtain ⟨rfl, rfl, rfl, rfl, rfl⟩ := NM.out
      have k1 := I1.out; have k2 := I2.out; have k3 := L2.out; have k4 := B2.out
      first
        | (have FIN := Lib.hid (ImgAt.fresh k4 (k1.1.below k3) (k1.2.below k3) k2.1 k2.2))
        | (have FIN := Lib.hid (ImgAt.stored k4 (k1.1.below k3) (k1.2.below k3) k2.1 k2.2))
        | (have k5 := (Below.refl w1.heap.size w1).alloc (Nat.le_refl _) (.cells zImg 49)
           have FIN := Lib.hid (ImgAt.stored k4 ((k1.1.below k5).below k3) ((k1.2.below k5).below k3) k2.1 k2.2))
      clear k1 k2 k3 k4 CL SC CE CE2 T TX ST STX HH
      go_wp2_with (fail)
      go_meet
      exact ⟨_, _, _, rfl, FIN⟩
  case rest =>
    obtain ⟨X, r, s, rfl, hX⟩ := hcut
    have hat := HH.out.below hX.out.below
    have hcell : wc.cell? ⟨b, 0, none⟩ = some (.map (some bm)) := by rw [hat.at_ 0 (by omega)]; rfl
    have hfr : ∀ n v, ((bf n).map fun x => Value.pointer (some ⟨x, 0, none⟩)) = some v → 0 ≤ n ∧ n < 16 := by
      intro n v h
      obtain ⟨x, hx, _⟩ := Option.map_eq_some_iff.1 h
      obtain ⟨g, hg, _⟩ := hat.bankBytes hx
      exact hk n g hg
    have kk : Calls Try.prog 42 #[.map (some bm)] wc fun e w' =>
      e = .returned (.func (.func 57) #[] #[.pointer (some ⟨wc.heap.size, 0, none⟩)]) ∧ w' = wc.alloc (.cells #[.map (some bm)] 82) := keysOf_any (some bm) wc
    have sk := sortedOf_any (w := wc.alloc (.cells #[.map (some bm)] 82)) (b := bm) hat.imap (heap_alloc_old hat.map) hfr wc.heap.size (heap_alloc_at wc _)
    have KK := Lib.hid kk
    have SK := Lib.hid sk
    have hwl : Hid (w.heap.size < (wc.alloc (.cells #[.map (some bm)] 82)).heap.size) := by
      have h := (Array.getElem?_eq_some_iff.1 hX.out.obj).1
      have e : (wc.alloc (.cells #[.map (some bm)] 82)).heap.size = wc.heap.size + 1 := by simp
      show _ < _; omega
    clear kk sk hat hfr
    go_wp2_with (first
      | (go_at_call 42; refine KK.out.mono ?_; rintro e w1 ⟨rfl, rfl⟩)
      | (go_at_call 41; refine SK.out.mono ?_; rintro e w5 ⟨v, ss, rfl, hp, hm, hby, hblk, hb5⟩; have HM := Lib.hid hm; have HP := Lib.hid hp; have HB5 := Lib.hid hb5; have HKB : Hid (Blk0 w w5 5 v) := (fun b o n c e => ⟨Nat.lt_of_lt_of_le hwl.out (hblk b o n c e).1, (hblk b o n c e).2⟩); have HBY := Lib.hid hby; obtain ⟨sa, sc, rfl, _, _⟩ := hby; clear hm hp hb5 hblk KK SK))
    obtain ⟨gs, hgs⟩ : ∃ gs : Int → Nat → Int, gs = fun x => (M.bank x).getD (fun _ => 0) := ⟨_, rfl⟩
    obtain ⟨l, hl⟩ : ∃ l, l = bankList ss gs := ⟨_, rfl⟩
    have HL := Lib.hid hl
    have HG := Lib.hid hgs
    have hst : Hid (BkRel w w5 M X l (.slice sa ss.length sc) ss 0 (.slice none 0 0) r s (fun _ => 0) (fun _ => 0)) :=
      BkRel.start (hX.out.next (((Below.refl _ _).alloc (Nat.le_refl _) _).trans (HB5.out.mono (by simp)))) l ⟨HBY.out, HKB.out⟩
    clear hl hgs
    go_loopw [5, 44] (fun _ i wr => ∃ k : Nat, k ≤ ss.length ∧ i = .int .i64 k ∧ ∃ bv g c, Hid (BkRel w wr M X l (.slice sa ss.length sc) ss k bv r s g c)) (fun _ i _ => ss.length - (intOf i).toNat)
    case atStart => exact ⟨0, Nat.zero_le _, rfl, _, _, _, hst⟩
    case round =>
      obtain ⟨k, hkl, rfl, bv, g, c, hrel⟩ := hrel
      by_cases hlt : k < ss.length
      · obtain ⟨a9, c9, e9, _, hkc⟩ := hrel.out.keys.1
        cases e9
        obtain ⟨kb, ko, rfl, hkc2⟩ := hkc (by omega)
        have c0 := hkc2 k hlt
        obtain ⟨n, hn⟩ : ∃ n, n = ss.getD k 0 := ⟨_, rfl⟩
        rw [← hn] at c0
        have HN := Lib.hid hn
        clear hn hkc hkc2
        have hss : ss.length ≤ 16 := asc_len ss 0 16 HP.out (fun x hx => by
          obtain ⟨y, hy⟩ := Option.isSome_iff_exists.1 ((HM.out x).1 hx)
          obtain ⟨xb, hxb, _⟩ := Option.map_eq_some_iff.1 hy
          obtain ⟨gd, hgd, _⟩ := HH.out.bankBytes hxb
          exact hk x gd hgd)
        have hmem : n ∈ ss := by rw [HN.out, List.getD_eq_getElem?_getD, List.getElem?_eq_getElem hlt]; exact List.getElem_mem hlt
        obtain ⟨y, hy⟩ := Option.isSome_iff_exists.1 ((HM.out n).1 hmem)
        obtain ⟨xb, hxb, rfl⟩ := Option.map_eq_some_iff.1 hy
        obtain ⟨gd, hgd, hgb⟩ := HH.out.bankBytes hxb
        obtain ⟨hn0, hn1⟩ := hk n gd hgd
        have hlk : l.getD k (0, []) = (n, bytesOf gd 16384) := by
          have e1 : gs n = gd := by rw [HG.out]; simp [hgd]
          have e2 : n = ss[k] := by rw [HN.out, List.getD_eq_getElem?_getD, List.getElem?_eq_getElem hlt]; rfl
          rw [← e1, HL.out]
          unfold bankList
          rw [List.getD_eq_getElem?_getD, List.getElem?_map, List.getElem?_eq_getElem hlt, ← e2]; rfl
        have hr0 : BkRel w wr.drew M X l (.slice (some ⟨kb, ko, none⟩) ss.length sc) ss k bv r s g c := hrel.out.next (Quiet.below ⟨1, rfl⟩)
        have hwz : w.heap.size < wr.drew.heap.size := (Array.getElem?_eq_some_iff.1 hr0.img.obj).1
        have F0 := Lib.hid hr0.img.below
        have cln : Calls Try.prog 40 #[.slice (some ⟨xb, 0, none⟩) 16384 16384] wr.drew fun e w1 => ∃ g' c', e = .returned (.slice (some ⟨g', 0, none⟩) 16384 c') ∧ w1.cell? ⟨X, 0, none⟩ = some bv ∧
            (w1.alloc (.cells #[.int .i64 n, .slice (some ⟨g', 0, none⟩) 16384 c'] 37)).cell? ⟨X, 0, none⟩ = some bv ∧ Hid (Below w.heap.size w w1) ∧ Hid (Below w.heap.size w (w1.alloc (.cells #[.int .i64 n, .slice (some ⟨g', 0, none⟩) 16384 c'] 37))) ∧
            Hid ((w1.alloc (.cells #[.int .i64 n, .slice (some ⟨g', 0, none⟩) 16384 c'] 37)).ownsRow (w.heap.size + 1) 37 2 bv k (bankCells l g c k)) ∧
            Hid (∀ j u, ([.int .i64 n, .slice (some ⟨g', 0, none⟩) 16384 c'] : List Value)[j]? = some u → (w1.alloc (.cells #[.int .i64 n, .slice (some ⟨g', 0, none⟩) 16384 c'] 37)).cell? ((⟨w1.heap.size, 0, none⟩ : Addr).add j) = some u) ∧
            Hid (∀ v' w3, (w1.alloc (.cells #[.int .i64 n, .slice (some ⟨g', 0, none⟩) 16384 c'] 37)).grownBy w3 bv.ownBlock → w3.ownsRow (w.heap.size + 1) 37 2 v' (k + 1) (bankCells l g c k ++ [.int .i64 n, .slice (some ⟨g', 0, none⟩) 16384 c']) →
              w3.cell? ⟨X, 0, none⟩ = some bv ∧ w3.frozen? ⟨X, 0, none⟩ = false ∧ Below w.heap.size w w3 ∧ Below w.heap.size w (w3.setCell ⟨X, 0, none⟩ v') ∧ ∃ g2 c2, BkRel w (w3.setCell ⟨X, 0, none⟩ v') M X l (.slice (some ⟨kb, ko, none⟩) ss.length sc) ss (k + 1) v' r s g2 c2) ∧ w.heap.size + 1 ≤ w1.heap.size := by
          refine (cloneBytes_any wr.drew _ (bytesOf gd 16384) (by rw [bytesOf_length]; omega) (hgb.below hr0.img.below)).mono ?_
          rintro e w1 ⟨v', rfl, ho, hb⟩
          have e16 : (bytesOf gd 16384).length = 16384 := bytesOf_length _ _
          rw [e16] at ho
          have hby := BytesIn.of_own e16.symm ho
          have hbl := Blk.of_own ho hwz
          have hsz := hb.size
          rcases ho.2 with ⟨_, h0⟩ | ⟨g', cap, cur, rfl, hfr, _⟩
          · exact absurd h0 (by decide)
          · obtain ⟨q1, q2, q3, q4, q5, q6, q7⟩ := hr0.round hb hlk e16 hby hbl hfr
            exact ⟨g', cap, rfl, q3, q4, q1, q2, q5, q6, q7, by omega⟩
        have CLN := Lib.hid cln
        have sw : ∀ W, Below w.heap.size w W → W.cell? ⟨b, 0, none⟩ = some (.map (some bm)) ∧ (Instr.lookup 82 (.map (some bm)) (.int .u8 n) false).run Try.prog W = .ok (.pointer (some ⟨xb, 0, none⟩)) W := fun W hW =>
          ⟨by rw [(HH.out.below hW).at_ 0 (by omega)]; rfl, by
            have := (HH.out.below hW).imap.look_some (P := Try.prog) (w := W) (HH.out.below hW).map Try.underlying82 Try.underlying5 (n := n) (v := .pointer (some ⟨xb, 0, none⟩)) (by simp [hxb]) false
            simpa using this⟩
        obtain ⟨sw1, sw2⟩ := sw wr.drew hr0.img.below
        have sw0 : wr.cell? ⟨b, 0, none⟩ = some (.map (some bm)) := sw1
        obtain ⟨ba, bn, bc, rfl⟩ : ∃ a n c, bv = .slice a n c := by
          rcases hr0.row.2 with ⟨rfl, _⟩ | ⟨q, cap, cur, rfl, _⟩
          · exact ⟨_, _, _, rfl⟩
          · exact ⟨_, _, _, rfl⟩
        have x0 : wr.cell? ⟨X, 0, none⟩ = some (.slice ba bn bc) := (cells8 hrel.out.img.x).1
        have x00 : wr.drew.cell? ⟨X, 0, none⟩ = some (.slice ba bn bc) := x0
        have hwn : IntKind.i64.wrap n = n := by simp [IntKind.wrap, IntKind.bits, IntKind.signed]; omega
        clear cln sw hr0 hwz hlk hgb hgd hxb hmem hy
        go_wp2_with (fail)
        go_region_law (first
          | (go_simp; go_at_call 40; refine CLN.out.mono ?_; rintro e w1 ⟨g', c', rfl, x1, x2, F1, F2, HV, HNW, AP, hsz1⟩; dsimp only)
          | (refine step_append_lies _ rfl (.tmp 49) (.tmp 62) 22 rfl (w.heap.size + 1) 37 i1 _ 2 32 Try.underlying22 hj hy0 hy1 hy2 rfl (by decide) (.slice ba bn bc) k (bankCells l g c k) (by simp [Act.eval]) HV.out ⟨w1.heap.size, 0, none⟩ 1 1 [.int .i64 n, .slice (some ⟨g', 0, none⟩) 16384 c'] (by simp [Act.eval]) rfl HNW.out (by simp [Value.oneCell']) (by decide) (by simp only [maxLen]; omega) (by omega) (by simp; omega) _ rfl ?_; intro q qc w3 ho hg hat hlt'; obtain ⟨x3, xf3, F3', F4', R'⟩ := AP.out _ w3 hg ho; have RR := Lib.hid R'; clear ho hg hat hlt' F3' F4' R'))
        all_goals
          go_wp2_with (fail)
          go_roundw
          case rel => obtain ⟨g2, c2, r2⟩ := RR.out; exact ⟨k + 1, hlt, by go_num, _, g2, c2, r2⟩
          case measure => simp [intOf]; omega
      · have hke : k = ss.length := by omega
        have FIN : Hid (BkRel w wr M X l (.slice sa ss.length sc) ss ss.length bv r s g c) := hke ▸ hrel
        obtain ⟨ba, bn, bc, rfl⟩ : ∃ a n c, bv = .slice a n c := by
          rcases FIN.out.row.2 with ⟨rfl, _⟩ | ⟨q, cap, cur, rfl, _⟩
          · exact ⟨_, _, _, rfl⟩
          · exact ⟨_, _, _, rfl⟩
        obtain ⟨ra, rn, rc, rfl⟩ : ∃ a n c, r = .slice a n c := by obtain ⟨a, c, e, _⟩ := FIN.out.img.ram; exact ⟨_, _, _, e⟩
        obtain ⟨ta, tn, tc, rfl⟩ : ∃ a n c, s = .slice a n c := by obtain ⟨a, c, e, _⟩ := FIN.out.img.scr; exact ⟨_, _, _, e⟩
        obtain ⟨x0, x1, x2, x3, x4, x5, x6, x7, xf⟩ := cells8 FIN.out.img.x
        obtain ⟨o0, o1, o2, o3, o4, o5, o6, o7, of⟩ := cells8 FIN.out.img.obj
        have hm' : ∀ x, x ∈ ss ↔ (M.bank x).isSome = true := fun x => by
          rw [HM.out x]
          cases hb : bf x with
          | none => simp [HH.out.gone x hb]
          | some y => obtain ⟨g, hg, _⟩ := HH.out.bankBytes hb; simp [hg]
        have hg' : ∀ x, x ∈ ss → M.bank x = some (gs x) := fun x hx => by
          obtain ⟨g, hg⟩ := Option.isSome_iff_exists.1 ((hm' x).1 hx)
          have e : gs x = g := by rw [HG.out]; simp [hg]
          rw [hg, e]
        have hE := by have h := FIN.out; rw [HL.out] at h; exact Lib.hid (h.close HP.out hm' hg' HH.out.ok)
        clear hm' hg' hke hrel HH NM HM HP HB5 HBY HKB HL HG hst hX
        go_wp2_with (fail)
        obtain ⟨w4, hw4⟩ : ∃ w4, w4 = ((((((((wr.setCell ⟨w.heap.size, 0, none⟩ (.slice ba bn bc)).setCell ⟨w.heap.size, 1, none⟩ (.slice ra rn rc)).setCell ⟨w.heap.size, 2, none⟩ (.slice ta tn tc)).setCell ⟨w.heap.size, 3, none⟩ (.int .u8 M.chosen)).setCell ⟨w.heap.size, 4, none⟩ (.int .u8 M.pad)).setCell ⟨w.heap.size, 5, none⟩ (.int .u16 M.pitch)).setCell ⟨w.heap.size, 6, none⟩ (.int .u8 M.volume)).setCell ⟨w.heap.size, 7, none⟩ (.int .u16 M.time)) := ⟨_, rfl⟩
        rw [← hw4] at hE ⊢
        obtain ⟨z0, z1, z2, z3, z4, z5, z6, z7, zf⟩ := cells8 hE.out.1
        refine bodyPost_ret (v := .agg #[.slice ba bn bc, .slice ra rn rc, .slice ta tn tc, .int .u8 M.chosen, .int .u8 M.pad, .int .u16 M.pitch, .int .u8 M.volume, .int .u16 M.time]) (by simp [results, Try.results22, go_sem, z0, z1, z2, z3, z4, z5, z6, z7]) rfl ?_
        exact hE.out.2
end Go.Proofs.Ytabeljpnmmfpgaa
