/-
  MemRestores, walked.
-/
import Derived.Test.YtabeljpnmmfpgaaMemPad2
import Derived.Deep.DeepCutAuto
import Derived.Deep.AppendLies
import Derived.Deep.RegionHeld3
import Derived.Sort.AtCall
namespace Go.Proofs.Ytabeljpnmmfpgaa
open Go.RowKit Go.MapKept
set_option linter.unusedVariables false
set_option linter.unusedSimpArgs false

set_option maxRecDepth 100000 in
set_option maxHeartbeats 8000000 in
theorem memRestores_walk (w : World) (I : Img) (b r s : Value) (dv : Nat → Value) (extra : Int) (h : ImgIn w I b r s dv) (hg : IGood I) :
    Calls Try.prog 4 #[I.val b r s, .int .i64 extra] w fun e w' => e = .returned (.bool true) ∧ Below w.heap.size w w' := by
  obtain ⟨i1, hj, hy0, hy1, hy2⟩ := info_parts infoBank
  obtain ⟨zc, hzc⟩ : ∃ zc, zc = madeCells #[.int .u8 0] 16384 := ⟨_, rfl⟩
  obtain ⟨zd, hzd⟩ : ∃ zd, zd = madeCells #[.int .u8 0] 3072 := ⟨_, rfl⟩
  have hmk : ∀ W, (Instr.makeSlice 35 (.int .i64 16384) (.int .i64 16384)).run Try.prog W = .ok (.slice (some ⟨W.heap.size, 0, none⟩) 16384 16384) (W.alloc (.cells zc 5)) := fun W => by rw [hzc]; exact makeBytes 16384 (by omega) W
  have hmk2 : ∀ W, (Instr.makeSlice 35 (.int .i64 3072) (.int .i64 3072)).run Try.prog W = .ok (.slice (some ⟨W.heap.size, 0, none⟩) 3072 3072) (W.alloc (.cells zd 5)) := fun W => by rw [hzd]; exact makeBytes 3072 (by omega) W
  have HZC := Lib.hid hzc
  have HZD := Lib.hid hzd
  have hzs : Hid (∀ n, n ≤ 16384 → 0 + n ≤ zc.toList.length) := fun n hn => by rw [Array.length_toList, HZC.out, made_size]; omega
  have hzs2 : Hid (∀ n, n ≤ 3072 → 0 + n ≤ zd.toList.length) := fun n hn => by rw [Array.length_toList, HZD.out, made_size]; omega
  clear hzc hzd
  have p0 := Lib.hid (PIn.start h)
  have HG := Lib.hid hg
  obtain ⟨⟨A1, c1, rfl⟩, ⟨A2, c2, rfl⟩, ⟨A3, c3, rfl⟩⟩ := p0.out.slices
  dsimp only [Img.val] at *
  clear h hg
  go_enter Try.func4, Try.ntmps4
  go_upto_region 1 with (fail)
  go_cut [24] (fun p wx => ∃ c : Bool, p = .bool c ∧ Hid (c = true → I.ram.length < 16384) ∧ Hid (PIn w wx I (.slice A1 I.banks.length c1) (.slice A2 I.ram.length c2) (.slice A3 I.scr.length c3) dv))
  case first =>
    go_wp2_with (fail)
    all_goals
      go_meet
      refine ⟨_, rfl, ?_, p0⟩
      first
      | (show _ → _; intro h; cases h; done)
      | (show _ → _; intro h; simp at h; omega)
  case rest =>
    obtain ⟨c, rfl, hc, P⟩ := hcut
    clear p0
    go_upto_if 24 with (fail)
    go_cut [] (fun wx => ∃ I b r s dv, Hid (PIn w wx I b r s dv ∧ IGood I))
    case first =>
      cases c with
      | false =>
        have fin : Hid (PIn w wc I (.slice A1 I.banks.length c1) (.slice A2 I.ram.length c2) (.slice A3 I.scr.length c3) dv ∧ IGood I) := ⟨P.out, HG.out⟩
        go_wp2_with (fail)
        go_meet
        exact ⟨_, _, _, _, _, fin⟩
      | true =>
        have hl := hc.out rfl
        have ba := (Below.refl wc.heap.size wc).alloc (Nat.le_refl _) (.cells zc 5)
        have hz : Hid ((wc.alloc (.cells zc 5)).heap[wc.heap.size]? = some (.cells zc.toList.toArray 5 (0, 0))) := heap_alloc_at wc _
        have BA := Lib.hid ba
        have PA := Lib.hid (P.out.next ba)
        have src := Lib.hid (byteTake_src PA.out.now.ram 16384 (some ⟨wc.heap.size, 0, none⟩) wc.heap.size rfl)
        have len := Lib.hid (byteTake_length I.ram 16384)
        have one := Lib.hid (byteTake_one I.ram 16384)
        obtain ⟨cs, hcs⟩ : ∃ cs, cs = (byteCells I.ram).take 16384 := ⟨_, rfl⟩
        rw [← hcs] at src len one
        have fit : Hid (0 + cs.length ≤ zc.toList.length) := hzs.out _ (by rw [len.out]; exact Nat.min_le_right _ _)
        have fin : Hid (∀ w2, w2.heap[wc.heap.size]? = some (.cells (splice zc.toList 0 cs).toArray 5 (0, 0)) → Below wc.heap.size wc w2 →
            PIn w (w2.setCell ⟨w.heap.size, 1, none⟩ (.slice (some ⟨wc.heap.size, 0, none⟩) 16384 16384)) { I with ram := padded I.ram 16384 } (.slice A1 I.banks.length c1) (.slice (some ⟨wc.heap.size, 0, none⟩) 16384 16384) (.slice A3 I.scr.length c3) dv ∧ IGood { I with ram := padded I.ram 16384 }) := by
          intro w2 hh hb2
          rw [HZC.out, hcs] at hh
          have hlt := P.out.lt
          exact ⟨(P.out.next hb2).setRam (pad_bytes hh) (fun b o n c e => by cases e; exact ⟨hlt, heap_lt hh⟩), HG.out.setRam 16384 (by omega)⟩
        obtain ⟨t0, t1, t2, t3, t4, t5, t6, t7, tf⟩ := cells8 PA.out.box
        clear ba hcs
        go_wp2_with (with_reducible refine wpList_copy_splice rfl (.tmp 26) (.tmp 28) 35 35 rfl 5 Try.underlying35 (by kernel_rfl) (some ⟨wc.heap.size, 0, none⟩) A2 16384 16384 I.ram.length c2 (by simp [Act.eval]) (by simp [Act.eval]) wc.heap.size 0 zc.toList 5 hz.out cs len.out src.out fit.out one.out wc.heap.size wc BA.out (Nat.le_refl _) ?_; intro w2 hh hb2; have F2 := Lib.hid (fin.out w2 hh.out hb2); obtain ⟨x0, x1, x2, x3, x4, x5, x6, x7, xf⟩ := cells8 (P.out.next hb2).box; clear hh hb2)
        go_meet
        exact ⟨_, _, _, _, _, F2⟩
    case rest =>
      obtain ⟨I2, b2, r2, s2, dv2, P2⟩ := hcut
      clear hc P HG
      have HG2 := Lib.hid P2.out.2
      have P := Lib.hid P2.out.1
      clear P2
      obtain ⟨⟨A1, c1, rfl⟩, ⟨A2, c2, rfl⟩, ⟨A3, c3, rfl⟩⟩ := P.out.slices
      obtain ⟨t0, t1, t2, t3, t4, t5, t6, t7, tf⟩ := cells8 P.out.box
      obtain ⟨W2, hW2⟩ : ∃ W2, W2 = wc := ⟨_, rfl⟩
      rw [← hW2] at P t0 t1 t2 t3 t4 t5 t6 t7 tf ⊢
      clear hW2
      go_upto_region 5 with (fail)
      go_cut [40] (fun p wx => ∃ c : Bool, p = .bool c ∧ Hid (c = true → I2.scr.length < 3072) ∧ Hid (PIn w wx I2 (.slice A1 I2.banks.length c1) (.slice A2 I2.ram.length c2) (.slice A3 I2.scr.length c3) dv2))
      case first =>
        go_wp2_with (fail)
        all_goals
          go_meet
          refine ⟨_, rfl, ?_, P⟩
          first
          | (show _ → _; intro h; cases h; done)
          | (show _ → _; intro h; simp at h; omega)
      case rest =>
        obtain ⟨c, rfl, hc, P⟩ := hcut
        go_upto_if 40 with (fail)
        go_cut [] (fun wx => ∃ I b r s dv, Hid (PIn w wx I b r s dv ∧ IGood I))
        case first =>
          cases c with
          | false =>
            have fin : Hid (PIn w wc I2 (.slice A1 I2.banks.length c1) (.slice A2 I2.ram.length c2) (.slice A3 I2.scr.length c3) dv2 ∧ IGood I2) := ⟨P.out, HG2.out⟩
            go_wp2_with (fail)
            go_meet
            exact ⟨_, _, _, _, _, fin⟩
          | true =>
            have hl := hc.out rfl
            have ba := (Below.refl wc.heap.size wc).alloc (Nat.le_refl _) (.cells zd 5)
            have hz : Hid ((wc.alloc (.cells zd 5)).heap[wc.heap.size]? = some (.cells zd.toList.toArray 5 (0, 0))) := heap_alloc_at wc _
            have BA := Lib.hid ba
            have PA := Lib.hid (P.out.next ba)
            have src := Lib.hid (byteTake_src PA.out.now.scr 3072 (some ⟨wc.heap.size, 0, none⟩) wc.heap.size rfl)
            have len := Lib.hid (byteTake_length I2.scr 3072)
            have one := Lib.hid (byteTake_one I2.scr 3072)
            obtain ⟨cs, hcs⟩ : ∃ cs, cs = (byteCells I2.scr).take 3072 := ⟨_, rfl⟩
            rw [← hcs] at src len one
            have fit : Hid (0 + cs.length ≤ zd.toList.length) := hzs2.out _ (by rw [len.out]; exact Nat.min_le_right _ _)
            have fin : Hid (∀ w2, w2.heap[wc.heap.size]? = some (.cells (splice zd.toList 0 cs).toArray 5 (0, 0)) → Below wc.heap.size wc w2 →
                PIn w (w2.setCell ⟨w.heap.size, 2, none⟩ (.slice (some ⟨wc.heap.size, 0, none⟩) 3072 3072)) { I2 with scr := padded I2.scr 3072 } (.slice A1 I2.banks.length c1) (.slice A2 I2.ram.length c2) (.slice (some ⟨wc.heap.size, 0, none⟩) 3072 3072) dv2 ∧ IGood { I2 with scr := padded I2.scr 3072 }) := by
              intro w2 hh hb2
              rw [HZD.out, hcs] at hh
              have hlt := P.out.lt
              exact ⟨(P.out.next hb2).setScr (pad_bytes hh) (fun b o n c e => by cases e; exact ⟨hlt, heap_lt hh⟩), HG2.out.setScr 3072 (by omega)⟩
            obtain ⟨t0, t1, t2, t3, t4, t5, t6, t7, tf⟩ := cells8 PA.out.box
            clear ba hcs
            go_wp2_with (with_reducible refine wpList_copy_splice rfl (.tmp 42) (.tmp 44) 35 35 rfl 5 Try.underlying35 (by kernel_rfl) (some ⟨wc.heap.size, 0, none⟩) A3 3072 3072 I2.scr.length c3 (by simp [Act.eval]) (by simp [Act.eval]) wc.heap.size 0 zd.toList 5 hz.out cs len.out src.out fit.out one.out wc.heap.size wc BA.out (Nat.le_refl _) ?_; intro w2 hh hb2; have F2 := Lib.hid (fin.out w2 hh.out hb2); obtain ⟨x0, x1, x2, x3, x4, x5, x6, x7, xf⟩ := cells8 (P.out.next hb2).box; clear hh hb2)
            go_meet
            exact ⟨_, _, _, _, _, F2⟩
        case rest =>
          obtain ⟨I3, b3, r3, s3, dv3, P3⟩ := hcut
          clear hc P HG2 hmk2 t0 t1 t2 t3 t4 t5 t6 t7 tf
          have HG3 := Lib.hid P3.out.2
          have P := Lib.hid P3.out.1
          clear P3
          obtain ⟨⟨A1, c1, rfl⟩, ⟨A2, c2, rfl⟩, ⟨A3, c3, rfl⟩⟩ := P.out.slices
          obtain ⟨W3, hW3⟩ : ∃ W3, W3 = wc := ⟨_, rfl⟩
          rw [← hW3] at P ⊢
          clear hW3
          go_upto_if 50 with (fail)
          go_cut [] (fun wx => ∃ I b r s dv, Hid (PIn w wx I b r s dv ∧ IGood I))
          case first =>
            obtain ⟨t0, t1, t2, t3, t4, t5, t6, t7, tf⟩ := cells8 P.out.box
            by_cases h7 : extra.tmod 7 < 5
            rotate_left
            · have d7 : decide (extra.tmod 7 < 5) = false := by simpa using h7
              have fin : Hid (PIn w W3 I3 (.slice A1 I3.banks.length c1) (.slice A2 I3.ram.length c2) (.slice A3 I3.scr.length c3) dv3 ∧ IGood I3) := ⟨P.out, HG3.out⟩
              go_wp2_with (fail)
              go_meet
              exact ⟨_, _, _, _, _, fin⟩
            · have d7 : decide (extra.tmod 7 < 5) = true := by simpa using h7
              have HB := Lib.hid P.out.now.banks
              obtain ⟨_, _, e, hrow⟩ := P.out.now.banks.row
              cases e
              have HR := Lib.hid hrow
              have start := Lib.hid (PdRel.start W3 16384 I3.banks)
              obtain ⟨l, hl⟩ : ∃ l, l = I3.banks := ⟨_, rfl⟩
              have HL := Lib.hid hl
              have HSM := HG3.out.small.1
              rw [← hl] at start HR HB t0 HSM
              clear hrow hl
              go_wp2_with (fail)
              go_loopw [7, 54] (fun v i wr => ∃ k : Nat, k ≤ l.length ∧ i = .int .i64 k ∧ ∃ g c, Hid (PdRel W3 wr 16384 l k v g c)) (fun _ i _ => l.length - (intOf i).toNat)
              case atStart => exact ⟨0, Nat.zero_le _, rfl, _, _, start⟩
              case round =>
                obtain ⟨k, hk, rfl, g, c, hrel⟩ := hrel
                by_cases hlt : k < l.length
                · obtain ⟨ab, ao, rfl, hcc⟩ := HR.out (by omega)
                  have hbw : Below W3.heap.size W3 wr := hrel.out.below
                  obtain ⟨da, dc, hd, _, _⟩ := HB.out.bytes k hlt
                  have hbyt := HB.out.bytes k hlt
                  have c0 : wr.cell? ⟨ab, ao + k * 2, none⟩ = some (.int .i64 (l.getD k (0, [])).1) := cell_keep hbw (hcc k hlt).1 (World.block_lt_of_cell? W3 _ (hcc k hlt).1)
                  have c1' : wr.cell? ⟨ab, ao + k * 2 + 1, none⟩ = some (.slice da (l.getD k (0, [])).2.length dc) := hd ▸ cell_keep hbw (hcc k hlt).2 (World.block_lt_of_cell? W3 _ (hcc k hlt).2)
                  rw [hd] at hbyt
                  obtain ⟨p, hp⟩ : ∃ p, p = l.getD k (0, []) := ⟨_, rfl⟩
                  rw [← hp] at c0 c1' hbyt
                  obtain ⟨nm, ds⟩ := p
                  dsimp only at c0 c1' hbyt
                  have hsz := hbw.size
                  obtain ⟨W1, hW1⟩ : ∃ W1, W1 = wr.alloc (.cells #[.int .i64 nm, .slice da ds.length dc] 37) := ⟨_, rfl⟩
                  have e1 : W1.heap.size = wr.heap.size + 1 := by rw [hW1]; simp
                  have ba : Below (wr.heap.size + 1) W1 (W1.alloc (.cells zc 5)) := (Below.refl _ _).alloc (by omega) _
                  have hz : Hid ((W1.alloc (.cells zc 5)).heap[wr.heap.size + 1]? = some (.cells zc.toList.toArray 5 (0, 0))) := by
                    have h := heap_alloc_at W1 (.cells zc 5)
                    rw [e1] at h; exact h
                  have hw2 : Below W3.heap.size W3 (W1.alloc (.cells zc 5)) := by
                    rw [hW1]; exact (hbw.alloc hsz _).alloc (by simp; omega) _
                  have src := Lib.hid (byteTake_src (hbyt.below hw2) 16384 (some ⟨wr.heap.size + 1, 0, none⟩) (wr.heap.size + 1) rfl)
                  have len := Lib.hid (byteTake_length ds 16384)
                  have one := Lib.hid (byteTake_one ds 16384)
                  obtain ⟨cs, hcs⟩ : ∃ cs, cs = (byteCells ds).take 16384 := ⟨_, rfl⟩
                  rw [← hcs] at src len one
                  have fit : Hid (0 + cs.length ≤ zc.toList.length) := hzs.out _ (by rw [len.out]; exact Nat.min_le_right _ _)
                  have fin : Hid (∀ w3, w3.heap[wr.heap.size + 1]? = some (.cells (splice zc.toList 0 cs).toArray 5 (0, 0)) → Below (wr.heap.size + 1) W1 w3 →
                      w3.cell? ⟨wr.heap.size, 0, none⟩ = some (.int .i64 nm) ∧ w3.cell? ⟨wr.heap.size, 1, none⟩ = some (.slice da ds.length dc) ∧
                      (w3.alloc (.cells #[.int .i64 nm, .slice (some ⟨wr.heap.size + 1, 0, none⟩) 16384 16384] 37)).ownsRow W3.heap.size 37 2 u7 k (bankCells (padL 16384 l) g c k) ∧ W3.heap.size ≤ w3.heap.size ∧
                      (∀ j u, ([.int .i64 nm, .slice (some ⟨wr.heap.size + 1, 0, none⟩) 16384 16384] : List Value)[j]? = some u → (w3.alloc (.cells #[.int .i64 nm, .slice (some ⟨wr.heap.size + 1, 0, none⟩) 16384 16384] 37)).cell? ((⟨w3.heap.size, 0, none⟩ : Addr).add j) = some u) ∧
                      ∀ v' w4, (w3.alloc (.cells #[.int .i64 nm, .slice (some ⟨wr.heap.size + 1, 0, none⟩) 16384 16384] 37)).grownBy w4 u7.ownBlock → w4.ownsRow W3.heap.size 37 2 v' (k + 1) (bankCells (padL 16384 l) g c k ++ [.int .i64 nm, .slice (some ⟨wr.heap.size + 1, 0, none⟩) 16384 16384]) →
                        ∃ g' c', PdRel W3 w4 16384 l (k + 1) v' g' c') := by
                    intro w3 hh hb3
                    rw [HZC.out, hcs] at hh
                    rw [hW1] at hb3
                    exact hrel.out.round hlt hp.symm hb3 hh
                  have BA := Lib.hid ba
                  subst hW1
                  clear ba hcs hbyt hd hcc hbw hp hw2 e1 t0 t1 t2 t3 t4 t5 t6 t7 tf hrel
                  go_wp2_with (first
                    | (with_reducible refine wpList_copy_splice rfl (.tmp 59) (.tmp 61) 35 35 rfl 5 Try.underlying35 (by kernel_rfl) (some ⟨wr.heap.size + 1, 0, none⟩) da 16384 16384 ds.length dc (by simp [Act.eval]) (by simp [Act.eval]) (wr.heap.size + 1) 0 zc.toList 5 hz.out cs len.out src.out fit.out one.out (wr.heap.size + 1) _ BA.out (Nat.le_refl _) ?_; intro w3 hh hb3; obtain ⟨f1, f2, f3, f4, f5, f6⟩ := fin.out w3 hh.out hb3; have HV := Lib.hid f3; have HNW := Lib.hid f5; have AP := Lib.hid f6; clear hh hb3 f3 f5 f6)
                    | (at_builtin; refine wpList_append_lies _ rfl (.tmp 63) (.tmp 68) 22 rfl W3.heap.size 37 i1 _ 2 32 Try.underlying22 hj hy0 hy1 hy2 rfl (by decide) u7 k (bankCells (padL 16384 l) g c k) (by simp [Act.eval]) HV.out ⟨w3.heap.size, 0, none⟩ 1 1 [.int .i64 nm, .slice (some ⟨wr.heap.size + 1, 0, none⟩) 16384 16384] (by simp [Act.eval]) rfl HNW.out (by simp [Value.oneCell']) (by decide) (by simp only [maxLen]; omega) (by omega) (by simp; omega) _ rfl ?_; intro q qc w4 ho hg hat hlt'; have f7 := Lib.hid (AP.out _ w4 hg ho); clear ho hg hat hlt'))
                  go_roundw
                  case rel => obtain ⟨g2, c2, r2⟩ := f7.out; exact ⟨k + 1, hlt, by go_num, g2, c2, r2⟩
                  case measure => simp [intOf]; omega
                · have hke : k = l.length := by omega
                  have hr : Hid (PdRel W3 wr 16384 l l.length u7 g c) := hke ▸ hrel
                  obtain ⟨va, vn, vc, rfl⟩ : ∃ a n c, u7 = .slice a n c := by
                    rcases hr.out.row.2 with ⟨e, _⟩ | ⟨q, cap, cur, e, _⟩
                    · exact ⟨_, _, _, e⟩
                    · exact ⟨_, _, _, e⟩
                  obtain ⟨x0, x1, x2, x3, x4, x5, x6, x7, xf⟩ := cells8 (P.out.next hr.out.below).box
                  have fin : Hid (PIn w (wr.setCell ⟨w.heap.size, 0, none⟩ (.slice va vn vc)) { I3 with banks := padL 16384 I3.banks } (.slice va vn vc) (.slice A2 I3.ram.length c2) (.slice A3 I3.scr.length c3) (bankSl (padL 16384 l) g c) ∧ IGood { I3 with banks := padL 16384 I3.banks }) := by
                    have hlt := P.out.lt
                    obtain ⟨q1, q2, q3⟩ := hr.out.close (fun i hi => by rw [HL.out]; exact HG3.out.ok.banks i (by rw [← HL.out]; exact hi))
                    refine ⟨?_, HG3.out.setBanks 16384 (by omega)⟩
                    rw [← HL.out]
                    exact (P.out.next hr.out.below).setBanks q1 (fun b o n c e => by have := q2 b o n c e; omega) (fun i hi b o n c e => by have := q3 i hi b o n c e; omega)
                  clear hke hrel hr t0 t1 t2 t3 t4 t5 t6 t7 tf
                  go_wp2_with (fail)
                  go_meet
                  exact ⟨_, _, _, _, _, fin⟩
          case rest =>
            obtain ⟨I4, b4, r4, s4, dv4, P4⟩ := hcut
            clear P HG3 hmk
            have HG := Lib.hid P4.out.2
            have P := Lib.hid P4.out.1
            clear P4
            obtain ⟨⟨A1, c1, rfl⟩, ⟨A2, c2, rfl⟩, ⟨A3, c3, rfl⟩⟩ := P.out.slices
            -- TAIL
            obtain ⟨t0, t1, t2, t3, t4, t5, t6, t7, tf⟩ := cells8 P.out.box
            go_wp2_with (fail)
            refine (refRestore_any wc I4 _ _ _ dv4 P.out.now HG.out.small.1).mono ?_
            rintro e w1 ⟨b1, hpost⟩
            have P1 := Lib.hid (P.out.next b1)
            obtain ⟨x0, x1, x2, x3, x4, x5, x6, x7, xf⟩ := cells8 P1.out.box
            clear b1 t0 t1 t2 t3 t4 t5 t6 t7 tf P
            rcases hpost with ⟨hI, q, rfl⟩ | ⟨hI, rfl⟩
            · have HI := Lib.hid hI
              clear hI
              go_wp2_with (fail)
              refine (back_any w1 I4 _ _ _ dv4 P1.out.now HG.out.small HG.out.ram HG.out.scr HG.out.ok).mono ?_
              rintro e w2 ⟨bb, rr, sx, du, rfl, hin, hb2⟩
              obtain ⟨e1, f1, rfl, _⟩ := hin.banks.row
              have hin' := hin
              obtain ⟨hin1, ⟨e2, f2, rfl, _⟩, ⟨e3, f3, rfl, _⟩⟩ := hin
              have ba2 : Below w2.heap.size w2 (w2.alloc (.cells #[.slice e1 I4.banks.length f1, .slice e2 I4.ram.length f2, .slice e3 I4.scr.length f3, .int .u8 I4.chosen, .int .u8 I4.pad, .int .u16 I4.pitch, .int .u8 I4.volume, .int .u16 I4.time] 49)) := (Below.refl _ _).alloc (Nat.le_refl _) _
              have hP2 := (P1.out.next hb2).next ba2
              have hI2 := hin'.below ba2
              have hbx2 := heap_alloc_at w2 (.cells #[.slice e1 I4.banks.length f1, .slice e2 I4.ram.length f2, .slice e3 I4.scr.length f3, .int .u8 I4.chosen, .int .u8 I4.pad, .int .u16 I4.pitch, .int .u8 I4.volume, .int .u16 I4.time] 49)
              have rs := Lib.hid (restore_any (w2.alloc (.cells #[.slice e1 I4.banks.length f1, .slice e2 I4.ram.length f2, .slice e3 I4.scr.length f3, .int .u8 I4.chosen, .int .u8 I4.pad, .int .u16 I4.pitch, .int .u8 I4.volume, .int .u16 I4.time] 49)) I4 _ _ _ du hI2 HG.out.small.1 HG.out.ok)
              have HP2 := Lib.hid hP2; have HI2 := Lib.hid hI2; have HX2 := Lib.hid hbx2
              clear hin' hin1 hb2 ba2 hP2 hI2 hbx2
              dsimp only [Img.val]
              go_wp2_with (fail)
              refine rs.out.mono ?_
              rintro e w3 ⟨hb3, hpost3⟩
              have P3 := Lib.hid (HP2.out.next hb3)
              have hI3 := HI2.out.below hb3
              have hX3 := (hb3.block _ (heap_lt HX2.out)).trans HX2.out
              have hbel3 := P3.out.below
              have same : Hid (∀ W, Below w3.heap.size w3 W → Calls Try.prog 20 #[.agg #[.slice e1 I4.banks.length f1, .slice e2 I4.ram.length f2, .slice e3 I4.scr.length f3, .int .u8 I4.chosen, .int .u8 I4.pad, .int .u16 I4.pitch, .int .u8 I4.volume, .int .u16 I4.time], .agg #[.slice A1 I4.banks.length c1, .slice A2 I4.ram.length c2, .slice A3 I4.scr.length c3, .int .u8 I4.chosen, .int .u8 I4.pad, .int .u16 I4.pitch, .int .u8 I4.volume, .int .u16 I4.time]] W fun e w' => e = .returned (.bool true) ∧ Hid (Below w3.heap.size w3 w')) := fun W hW =>
                (sameImage_any W I4 _ _ _ _ _ _ du dv4 (hI3.below hW) (P3.out.next hW).now HG.out.small.1).mono (by rintro e w' ⟨rfl, hb⟩; exact ⟨rfl, hW.trans (hb.mono hW.size)⟩)
              have img : Hid (∀ W, Below w3.heap.size w3 W → Calls Try.prog 21 #[.agg #[.slice e1 I4.banks.length f1, .slice e2 I4.ram.length f2, .slice e3 I4.scr.length f3, .int .u8 I4.chosen, .int .u8 I4.pad, .int .u16 I4.pitch, .int .u8 I4.volume, .int .u16 I4.time]] W fun e w' => e = .returned (.agg #[.slice e1 I4.banks.length f1, .slice e2 I4.ram.length f2, .slice e3 I4.scr.length f3, .int .u8 I4.chosen, .int .u8 I4.pad, .int .u16 I4.pitch, .int .u8 I4.volume, .int .u16 I4.time]) ∧ Hid (Below w3.heap.size w3 w')) := fun W hW =>
                (image_any W I4 _ _ _ ⟨_, _, _, rfl⟩ ⟨_, _, _, rfl⟩ ⟨_, _, _, rfl⟩).mono (by rintro e w' ⟨rfl, hb⟩; exact ⟨rfl, hW.trans (hb.mono hW.size)⟩)
              have awk : Hid (∀ W, Below w3.heap.size w3 W → Calls Try.prog 9 #[] W fun e w' => e = .returned (.bool true) ∧ Hid (Below w3.heap.size w3 w')) := fun W hW =>
                (awake_any W).mono (by rintro e w' ⟨rfl, hb⟩; exact ⟨rfl, hW.trans (hb.mono hW.size)⟩)
              have bxc : Hid (∀ W, Below w3.heap.size w3 W → W.cell? ⟨w.heap.size, 0, none⟩ = some (.slice A1 I4.banks.length c1) ∧ W.cell? ⟨w.heap.size, 1, none⟩ = some (.slice A2 I4.ram.length c2) ∧ W.cell? ⟨w.heap.size, 2, none⟩ = some (.slice A3 I4.scr.length c3) ∧ W.cell? ⟨w.heap.size, 3, none⟩ = some (.int .u8 I4.chosen) ∧ W.cell? ⟨w.heap.size, 4, none⟩ = some (.int .u8 I4.pad) ∧ W.cell? ⟨w.heap.size, 5, none⟩ = some (.int .u16 I4.pitch) ∧ W.cell? ⟨w.heap.size, 6, none⟩ = some (.int .u8 I4.volume) ∧ W.cell? ⟨w.heap.size, 7, none⟩ = some (.int .u16 I4.time)) := fun W hW => by
                obtain ⟨z0, z1, z2, z3, z4, z5, z6, z7, zf⟩ := cells8 (P3.out.next hW).box
                exact ⟨z0, z1, z2, z3, z4, z5, z6, z7⟩
              have sb : Hid (∀ W, Below w3.heap.size w3 W → W.cell? ⟨w2.heap.size, 0, none⟩ = some (.slice e1 I4.banks.length f1) ∧ W.cell? ⟨w2.heap.size, 1, none⟩ = some (.slice e2 I4.ram.length f2) ∧ W.cell? ⟨w2.heap.size, 2, none⟩ = some (.slice e3 I4.scr.length f3) ∧ W.cell? ⟨w2.heap.size, 3, none⟩ = some (.int .u8 I4.chosen) ∧ W.cell? ⟨w2.heap.size, 4, none⟩ = some (.int .u8 I4.pad) ∧ W.cell? ⟨w2.heap.size, 5, none⟩ = some (.int .u16 I4.pitch) ∧ W.cell? ⟨w2.heap.size, 6, none⟩ = some (.int .u8 I4.volume) ∧ W.cell? ⟨w2.heap.size, 7, none⟩ = some (.int .u16 I4.time) ∧ W.cell? ⟨w.heap.size, 0, none⟩ = some (.slice A1 I4.banks.length c1) ∧ W.cell? ⟨w.heap.size, 1, none⟩ = some (.slice A2 I4.ram.length c2) ∧ W.cell? ⟨w.heap.size, 2, none⟩ = some (.slice A3 I4.scr.length c3) ∧ W.cell? ⟨w.heap.size, 3, none⟩ = some (.int .u8 I4.chosen) ∧ W.cell? ⟨w.heap.size, 4, none⟩ = some (.int .u8 I4.pad) ∧ W.cell? ⟨w.heap.size, 5, none⟩ = some (.int .u16 I4.pitch) ∧ W.cell? ⟨w.heap.size, 6, none⟩ = some (.int .u8 I4.volume) ∧ W.cell? ⟨w.heap.size, 7, none⟩ = some (.int .u16 I4.time)) := fun W hW => by
                obtain ⟨z0, z1, z2, z3, z4, z5, z6, z7, zf⟩ := cells8 ((hW.block _ (heap_lt hX3)).trans hX3)
                exact ⟨z0, z1, z2, z3, z4, z5, z6, z7, bxc.out W hW⟩
              have D3 : Hid (Below w3.heap.size w3 w3.drew) := (Below.refl _ _).drew
              have fin : Hid (∀ W, Below w3.heap.size w3 W → Below w.heap.size w W) := fun W hW => hbel3.trans (hW.mono hbel3.size)
              rcases hpost3 with ⟨_, q3, S3, rfl, hm, hS⟩ | ⟨hn, rfl⟩
              rotate_left
              · exact absurd HI.out hn
              have imb : Hid (∀ W, Below w3.heap.size w3 W → Calls Try.prog 22 #[.pointer (some ⟨q3, 0, none⟩)] W fun e w' => ∃ k1 m1 k2 m2 k3 m3, e = .returned (.agg #[.slice k1 I4.banks.length m1, .slice k2 I4.ram.length m2, .slice k3 I4.scr.length m3, .int .u8 I4.chosen, .int .u8 I4.pad, .int .u16 I4.pitch, .int .u8 I4.volume, .int .u16 I4.time]) ∧ Hid (∃ dz, ImgIn w' I4 (.slice k1 I4.banks.length m1) (.slice k2 I4.ram.length m2) (.slice k3 I4.scr.length m3) dz) ∧ Hid (Below w3.heap.size w3 w')) := fun W hW =>
                (imageBack (hm.stays (fun i hi => hW.block i (hm.lt i hi))) HI.out).mono (by
                  rintro e w' ⟨bb, rr, sx, dz, rfl, hin, hb⟩
                  obtain ⟨k1, m1, rfl, _⟩ := hin.banks.row
                  have hin' := hin
                  obtain ⟨hin1, ⟨k2, m2, rfl, _⟩, ⟨k3, m3, rfl, _⟩⟩ := hin
                  exact ⟨k1, m1, k2, m2, k3, m3, rfl, ⟨dz, hin'⟩, hW.trans (hb.mono hW.size)⟩)
              have same2 : Hid (∀ W W' k1 m1 k2 m2 k3 m3, Below w3.heap.size w3 W → Below W.heap.size W W' → (∃ dz, ImgIn W I4 (.slice k1 I4.banks.length m1) (.slice k2 I4.ram.length m2) (.slice k3 I4.scr.length m3) dz) → Calls Try.prog 20 #[.agg #[.slice k1 I4.banks.length m1, .slice k2 I4.ram.length m2, .slice k3 I4.scr.length m3, .int .u8 I4.chosen, .int .u8 I4.pad, .int .u16 I4.pitch, .int .u8 I4.volume, .int .u16 I4.time], .agg #[.slice A1 I4.banks.length c1, .slice A2 I4.ram.length c2, .slice A3 I4.scr.length c3, .int .u8 I4.chosen, .int .u8 I4.pad, .int .u16 I4.pitch, .int .u8 I4.volume, .int .u16 I4.time]] W' fun e w' => e = .returned (.bool true) ∧ Hid (Below w3.heap.size w3 w')) := fun W W' k1 m1 k2 m2 k3 m3 hW hW' ⟨dz, hin⟩ => by
                have hW2 := hW.trans (hW'.mono hW.size)
                exact (sameImage_any W' I4 _ _ _ _ _ _ dz dv4 (hin.below hW') (P3.out.next hW2).now HG.out.small.1).mono (by rintro e w' ⟨rfl, hb⟩; exact ⟨rfl, hW2.trans (hb.mono hW2.size)⟩)
              have img2 : Hid (∀ W k1 m1 k2 m2 k3 m3, Below w3.heap.size w3 W → Calls Try.prog 21 #[.agg #[.slice k1 I4.banks.length m1, .slice k2 I4.ram.length m2, .slice k3 I4.scr.length m3, .int .u8 I4.chosen, .int .u8 I4.pad, .int .u16 I4.pitch, .int .u8 I4.volume, .int .u16 I4.time]] W fun e w' => e = .returned (.agg #[.slice k1 I4.banks.length m1, .slice k2 I4.ram.length m2, .slice k3 I4.scr.length m3, .int .u8 I4.chosen, .int .u8 I4.pad, .int .u16 I4.pitch, .int .u8 I4.volume, .int .u16 I4.time]) ∧ Hid (Below W.heap.size W w') ∧ Hid (Below w3.heap.size w3 w')) := fun W k1 m1 k2 m2 k3 m3 hW =>
                (image_any W I4 _ _ _ ⟨_, _, _, rfl⟩ ⟨_, _, _, rfl⟩ ⟨_, _, _, rfl⟩).mono (by rintro e w' ⟨rfl, hb⟩; exact ⟨rfl, hb, hW.trans (hb.mono hW.size)⟩)
              have ton : Hid (∀ W, Below w3.heap.size w3 W → Calls Try.prog 23 #[.pointer (some ⟨q3, 0, none⟩)] W fun e w' => ∃ a c, e = .returned (.slice a 0 c) ∧ Hid (Below w3.heap.size w3 w')) := fun W hW =>
                (tones_rep (hm.stays (fun i hi => hW.block i (hm.lt i hi))) (by show (0 : Nat) < _; omega)).mono (by
                  rintro e w' ⟨v', rfl, ho, hb⟩
                  have hb' := hW.trans (hb.mono hW.size)
                  rcases ho.2 with ⟨rfl, _⟩ | ⟨g, cap, cur, rfl, _⟩
                  · exact ⟨_, _, rfl, hb'⟩
                  · exact ⟨_, _, rfl, hb'⟩)
              clear hm hS
              clear hb3 hI3 hX3 hbel3 HP2 HI2 HX2 P1 x0 x1 x2 x3 x4 x5 x6 x7 xf rs
              go_upto_region 22 with (fail)
              go_cut [105] (fun p wx => p = .bool false ∧ Hid (Below w3.heap.size w3 wx))
              case first =>
                go_wp2_with (fail)
                go_region_held3 (fun w' => w'.cell? ⟨w2.heap.size, 0, none⟩ = some (.slice e1 I4.banks.length f1) ∧ w'.cell? ⟨w2.heap.size, 1, none⟩ = some (.slice e2 I4.ram.length f2) ∧ w'.cell? ⟨w2.heap.size, 2, none⟩ = some (.slice e3 I4.scr.length f3) ∧ w'.cell? ⟨w2.heap.size, 3, none⟩ = some (.int .u8 I4.chosen) ∧ w'.cell? ⟨w2.heap.size, 4, none⟩ = some (.int .u8 I4.pad) ∧ w'.cell? ⟨w2.heap.size, 5, none⟩ = some (.int .u16 I4.pitch) ∧ w'.cell? ⟨w2.heap.size, 6, none⟩ = some (.int .u8 I4.volume) ∧ w'.cell? ⟨w2.heap.size, 7, none⟩ = some (.int .u16 I4.time) ∧ w'.cell? ⟨w.heap.size, 0, none⟩ = some (.slice A1 I4.banks.length c1) ∧ w'.cell? ⟨w.heap.size, 1, none⟩ = some (.slice A2 I4.ram.length c2) ∧ w'.cell? ⟨w.heap.size, 2, none⟩ = some (.slice A3 I4.scr.length c3) ∧ w'.cell? ⟨w.heap.size, 3, none⟩ = some (.int .u8 I4.chosen) ∧ w'.cell? ⟨w.heap.size, 4, none⟩ = some (.int .u8 I4.pad) ∧ w'.cell? ⟨w.heap.size, 5, none⟩ = some (.int .u16 I4.pitch) ∧ w'.cell? ⟨w.heap.size, 6, none⟩ = some (.int .u8 I4.volume) ∧ w'.cell? ⟨w.heap.size, 7, none⟩ = some (.int .u16 I4.time))
                  (first | with_reducible exact sb.out _ D3.out | with_reducible exact sb.out _ B4.out | with_reducible exact sb.out _ B5.out | with_reducible exact sb.out _ B6.out)
                  (first
                  | (go_at_call 21; refine Calls.mono (img.out _ D3.out) ?_; rintro e w4 ⟨rfl, B4⟩)
                  | (go_at_call 20; refine Calls.mono (same.out _ B4.out) ?_; rintro e w5 ⟨rfl, B5⟩)
                  | (go_at_call 9; refine Calls.mono (awk.out _ B5.out) ?_; rintro e w6 ⟨rfl, B6⟩))
                all_goals
                  go_wp2_with (fail)
                  go_meet
                  exact ⟨rfl, B6⟩
              case rest =>
                obtain ⟨rfl, B6⟩ := hcut
                have D6 : Hid (Below w3.heap.size w3 wc.drew) := B6.out.drew
                clear img same awk D3 sb
                go_wp2_with (fail)
                go_region_held3 (fun w' => w'.cell? ⟨w.heap.size, 0, none⟩ = some (.slice A1 I4.banks.length c1) ∧ w'.cell? ⟨w.heap.size, 1, none⟩ = some (.slice A2 I4.ram.length c2) ∧ w'.cell? ⟨w.heap.size, 2, none⟩ = some (.slice A3 I4.scr.length c3) ∧ w'.cell? ⟨w.heap.size, 3, none⟩ = some (.int .u8 I4.chosen) ∧ w'.cell? ⟨w.heap.size, 4, none⟩ = some (.int .u8 I4.pad) ∧ w'.cell? ⟨w.heap.size, 5, none⟩ = some (.int .u16 I4.pitch) ∧ w'.cell? ⟨w.heap.size, 6, none⟩ = some (.int .u8 I4.volume) ∧ w'.cell? ⟨w.heap.size, 7, none⟩ = some (.int .u16 I4.time))
                  (first | with_reducible exact bxc.out _ D6.out | with_reducible exact bxc.out _ B7.out | with_reducible exact bxc.out _ B8.out | with_reducible exact bxc.out _ B9.out | with_reducible exact bxc.out _ B10.out)
                  (first
                  | (go_at_call 22; refine Calls.mono (imb.out _ D6.out) ?_; rintro e w7 ⟨k1, m1, k2, m2, k3, m3, rfl, HJ, B7⟩)
                  | (go_at_call 21; refine Calls.mono (img2.out _ _ _ _ _ _ _ B7.out) ?_; rintro e w8 ⟨rfl, B78, B8⟩)
                  | (go_at_call 20; refine Calls.mono (same2.out _ _ _ _ _ _ _ _ B7.out B78.out HJ.out) ?_; rintro e w9 ⟨rfl, B9⟩)
                  | (go_at_call 23; refine Calls.mono (ton.out _ B9.out) ?_; rintro e w10 ⟨ta, tc, rfl, B10⟩))
                all_goals
                  go_wp2_with (fail)
                  go_ret
                  exact ⟨rfl, fin.out _ B10.out⟩
            · have HI := Lib.hid hI
              clear hI
              go_wp2_with (fail)
              refine (back_any w1 I4 _ _ _ dv4 P1.out.now HG.out.small HG.out.ram HG.out.scr HG.out.ok).mono ?_
              rintro e w2 ⟨bb, rr, sx, du, rfl, hin, hb2⟩
              obtain ⟨e1, f1, rfl, _⟩ := hin.banks.row
              have hin' := hin
              obtain ⟨hin1, ⟨e2, f2, rfl, _⟩, ⟨e3, f3, rfl, _⟩⟩ := hin
              have ba2 : Below w2.heap.size w2 (w2.alloc (.cells #[.slice e1 I4.banks.length f1, .slice e2 I4.ram.length f2, .slice e3 I4.scr.length f3, .int .u8 I4.chosen, .int .u8 I4.pad, .int .u16 I4.pitch, .int .u8 I4.volume, .int .u16 I4.time] 49)) := (Below.refl _ _).alloc (Nat.le_refl _) _
              have hP2 := (P1.out.next hb2).next ba2
              have hI2 := hin'.below ba2
              have hbx2 := heap_alloc_at w2 (.cells #[.slice e1 I4.banks.length f1, .slice e2 I4.ram.length f2, .slice e3 I4.scr.length f3, .int .u8 I4.chosen, .int .u8 I4.pad, .int .u16 I4.pitch, .int .u8 I4.volume, .int .u16 I4.time] 49)
              have rs := Lib.hid (restore_any (w2.alloc (.cells #[.slice e1 I4.banks.length f1, .slice e2 I4.ram.length f2, .slice e3 I4.scr.length f3, .int .u8 I4.chosen, .int .u8 I4.pad, .int .u16 I4.pitch, .int .u8 I4.volume, .int .u16 I4.time] 49)) I4 _ _ _ du hI2 HG.out.small.1 HG.out.ok)
              have HP2 := Lib.hid hP2; have HI2 := Lib.hid hI2; have HX2 := Lib.hid hbx2
              clear hin' hin1 hb2 ba2 hP2 hI2 hbx2
              dsimp only [Img.val]
              go_wp2_with (fail)
              refine rs.out.mono ?_
              rintro e w3 ⟨hb3, hpost3⟩
              have P3 := Lib.hid (HP2.out.next hb3)
              have hI3 := HI2.out.below hb3
              have hX3 := (hb3.block _ (heap_lt HX2.out)).trans HX2.out
              have hbel3 := P3.out.below
              have same : Hid (∀ W, Below w3.heap.size w3 W → Calls Try.prog 20 #[.agg #[.slice e1 I4.banks.length f1, .slice e2 I4.ram.length f2, .slice e3 I4.scr.length f3, .int .u8 I4.chosen, .int .u8 I4.pad, .int .u16 I4.pitch, .int .u8 I4.volume, .int .u16 I4.time], .agg #[.slice A1 I4.banks.length c1, .slice A2 I4.ram.length c2, .slice A3 I4.scr.length c3, .int .u8 I4.chosen, .int .u8 I4.pad, .int .u16 I4.pitch, .int .u8 I4.volume, .int .u16 I4.time]] W fun e w' => e = .returned (.bool true) ∧ Hid (Below w3.heap.size w3 w')) := fun W hW =>
                (sameImage_any W I4 _ _ _ _ _ _ du dv4 (hI3.below hW) (P3.out.next hW).now HG.out.small.1).mono (by rintro e w' ⟨rfl, hb⟩; exact ⟨rfl, hW.trans (hb.mono hW.size)⟩)
              have img : Hid (∀ W, Below w3.heap.size w3 W → Calls Try.prog 21 #[.agg #[.slice e1 I4.banks.length f1, .slice e2 I4.ram.length f2, .slice e3 I4.scr.length f3, .int .u8 I4.chosen, .int .u8 I4.pad, .int .u16 I4.pitch, .int .u8 I4.volume, .int .u16 I4.time]] W fun e w' => e = .returned (.agg #[.slice e1 I4.banks.length f1, .slice e2 I4.ram.length f2, .slice e3 I4.scr.length f3, .int .u8 I4.chosen, .int .u8 I4.pad, .int .u16 I4.pitch, .int .u8 I4.volume, .int .u16 I4.time]) ∧ Hid (Below w3.heap.size w3 w')) := fun W hW =>
                (image_any W I4 _ _ _ ⟨_, _, _, rfl⟩ ⟨_, _, _, rfl⟩ ⟨_, _, _, rfl⟩).mono (by rintro e w' ⟨rfl, hb⟩; exact ⟨rfl, hW.trans (hb.mono hW.size)⟩)
              have awk : Hid (∀ W, Below w3.heap.size w3 W → Calls Try.prog 9 #[] W fun e w' => e = .returned (.bool true) ∧ Hid (Below w3.heap.size w3 w')) := fun W hW =>
                (awake_any W).mono (by rintro e w' ⟨rfl, hb⟩; exact ⟨rfl, hW.trans (hb.mono hW.size)⟩)
              have bxc : Hid (∀ W, Below w3.heap.size w3 W → W.cell? ⟨w.heap.size, 0, none⟩ = some (.slice A1 I4.banks.length c1) ∧ W.cell? ⟨w.heap.size, 1, none⟩ = some (.slice A2 I4.ram.length c2) ∧ W.cell? ⟨w.heap.size, 2, none⟩ = some (.slice A3 I4.scr.length c3) ∧ W.cell? ⟨w.heap.size, 3, none⟩ = some (.int .u8 I4.chosen) ∧ W.cell? ⟨w.heap.size, 4, none⟩ = some (.int .u8 I4.pad) ∧ W.cell? ⟨w.heap.size, 5, none⟩ = some (.int .u16 I4.pitch) ∧ W.cell? ⟨w.heap.size, 6, none⟩ = some (.int .u8 I4.volume) ∧ W.cell? ⟨w.heap.size, 7, none⟩ = some (.int .u16 I4.time)) := fun W hW => by
                obtain ⟨z0, z1, z2, z3, z4, z5, z6, z7, zf⟩ := cells8 (P3.out.next hW).box
                exact ⟨z0, z1, z2, z3, z4, z5, z6, z7⟩
              have sb : Hid (∀ W, Below w3.heap.size w3 W → W.cell? ⟨w2.heap.size, 0, none⟩ = some (.slice e1 I4.banks.length f1) ∧ W.cell? ⟨w2.heap.size, 1, none⟩ = some (.slice e2 I4.ram.length f2) ∧ W.cell? ⟨w2.heap.size, 2, none⟩ = some (.slice e3 I4.scr.length f3) ∧ W.cell? ⟨w2.heap.size, 3, none⟩ = some (.int .u8 I4.chosen) ∧ W.cell? ⟨w2.heap.size, 4, none⟩ = some (.int .u8 I4.pad) ∧ W.cell? ⟨w2.heap.size, 5, none⟩ = some (.int .u16 I4.pitch) ∧ W.cell? ⟨w2.heap.size, 6, none⟩ = some (.int .u8 I4.volume) ∧ W.cell? ⟨w2.heap.size, 7, none⟩ = some (.int .u16 I4.time) ∧ W.cell? ⟨w.heap.size, 0, none⟩ = some (.slice A1 I4.banks.length c1) ∧ W.cell? ⟨w.heap.size, 1, none⟩ = some (.slice A2 I4.ram.length c2) ∧ W.cell? ⟨w.heap.size, 2, none⟩ = some (.slice A3 I4.scr.length c3) ∧ W.cell? ⟨w.heap.size, 3, none⟩ = some (.int .u8 I4.chosen) ∧ W.cell? ⟨w.heap.size, 4, none⟩ = some (.int .u8 I4.pad) ∧ W.cell? ⟨w.heap.size, 5, none⟩ = some (.int .u16 I4.pitch) ∧ W.cell? ⟨w.heap.size, 6, none⟩ = some (.int .u8 I4.volume) ∧ W.cell? ⟨w.heap.size, 7, none⟩ = some (.int .u16 I4.time)) := fun W hW => by
                obtain ⟨z0, z1, z2, z3, z4, z5, z6, z7, zf⟩ := cells8 ((hW.block _ (heap_lt hX3)).trans hX3)
                exact ⟨z0, z1, z2, z3, z4, z5, z6, z7, bxc.out W hW⟩
              have D3 : Hid (Below w3.heap.size w3 w3.drew) := (Below.refl _ _).drew
              have fin : Hid (∀ W, Below w3.heap.size w3 W → Below w.heap.size w W) := fun W hW => hbel3.trans (hW.mono hbel3.size)
              rcases hpost3 with ⟨hn, _⟩ | ⟨_, rfl⟩
              · exact absurd hn HI.out
              clear hb3 hI3 hX3 hbel3 HP2 HI2 HX2 P1 x0 x1 x2 x3 x4 x5 x6 x7 xf rs
              go_upto_region 22 with (fail)
              go_cut [105] (fun p wx => p = .bool false ∧ Hid (Below w3.heap.size w3 wx))
              case first =>
                go_wp2_with (fail)
                go_region_held3 (fun w' => w'.cell? ⟨w2.heap.size, 0, none⟩ = some (.slice e1 I4.banks.length f1) ∧ w'.cell? ⟨w2.heap.size, 1, none⟩ = some (.slice e2 I4.ram.length f2) ∧ w'.cell? ⟨w2.heap.size, 2, none⟩ = some (.slice e3 I4.scr.length f3) ∧ w'.cell? ⟨w2.heap.size, 3, none⟩ = some (.int .u8 I4.chosen) ∧ w'.cell? ⟨w2.heap.size, 4, none⟩ = some (.int .u8 I4.pad) ∧ w'.cell? ⟨w2.heap.size, 5, none⟩ = some (.int .u16 I4.pitch) ∧ w'.cell? ⟨w2.heap.size, 6, none⟩ = some (.int .u8 I4.volume) ∧ w'.cell? ⟨w2.heap.size, 7, none⟩ = some (.int .u16 I4.time) ∧ w'.cell? ⟨w.heap.size, 0, none⟩ = some (.slice A1 I4.banks.length c1) ∧ w'.cell? ⟨w.heap.size, 1, none⟩ = some (.slice A2 I4.ram.length c2) ∧ w'.cell? ⟨w.heap.size, 2, none⟩ = some (.slice A3 I4.scr.length c3) ∧ w'.cell? ⟨w.heap.size, 3, none⟩ = some (.int .u8 I4.chosen) ∧ w'.cell? ⟨w.heap.size, 4, none⟩ = some (.int .u8 I4.pad) ∧ w'.cell? ⟨w.heap.size, 5, none⟩ = some (.int .u16 I4.pitch) ∧ w'.cell? ⟨w.heap.size, 6, none⟩ = some (.int .u8 I4.volume) ∧ w'.cell? ⟨w.heap.size, 7, none⟩ = some (.int .u16 I4.time))
                  (first | with_reducible exact sb.out _ D3.out | with_reducible exact sb.out _ B4.out | with_reducible exact sb.out _ B5.out | with_reducible exact sb.out _ B6.out)
                  (first
                  | (go_at_call 21; refine Calls.mono (img.out _ D3.out) ?_; rintro e w4 ⟨rfl, B4⟩)
                  | (go_at_call 20; refine Calls.mono (same.out _ B4.out) ?_; rintro e w5 ⟨rfl, B5⟩)
                  | (go_at_call 9; refine Calls.mono (awk.out _ B5.out) ?_; rintro e w6 ⟨rfl, B6⟩))
                all_goals
                  go_wp2_with (fail)
                  go_meet
                  exact ⟨rfl, B6⟩
              case rest =>
                obtain ⟨rfl, B6⟩ := hcut
                have D6 : Hid (Below w3.heap.size w3 wc.drew) := B6.out.drew
                clear img same awk D3 sb
                go_wp2_with (fail)
                obtain ⟨g0, g1, g2, g3, g4, g5, g6, g7⟩ := bxc.out wc B6.out
                go_quiet (fail)
                go_wp2_with (fail)
                go_ret
                exact ⟨rfl, fin.out _ (B6.out.trans (Quiet.below ⟨nq, rfl⟩))⟩
end Go.Proofs.Ytabeljpnmmfpgaa
