/-
  FlowBehind: walked.
-/
import Derived.BigQuiet
import Derived.Deep.Cut
import Derived.Test.YtabeljpnmmfpgaaDoorFlBehB
namespace Go.Proofs.YtabeljpnmmfpgaaDoor
open Go.RowKit Go.MapKept Go.Maps Go.Sort
set_option linter.unusedVariables false
set_option linter.unusedSimpArgs false

set_option maxRecDepth 100000 in
set_option maxHeartbeats 8000000 in
theorem behind_any (w : World) (A : Option Addr) (c : Nat) (ws : List FW) (h : FWin w A ws) (hc : ws.length ≤ c) (hm : ws.length ≤ 2000000) (ht : Tab w) :
    Calls Tryd.prog 8 #[.slice A ws.length c] w fun e w' => e = .returned (.bool true) ∧ Below w.heap.size w w' := by
  have HF0 := Lib.hid h
  have HT0 := Lib.hid ht
  obtain ⟨N0, hN0⟩ : ∃ N, N = ws.length := ⟨_, rfl⟩
  rw [← hN0] at hc hm ⊢
  have HN0 := Lib.hid hN0
  clear h ht hN0
  go_enter Tryd.func8, Tryd.ntmps8
  go_upto_if 21 with fail
  go_cut [0] from 19 (fun v wx => ∃ (l : List FW) (n c' : Nat), v = .slice A n c' ∧ Hid (n = l.length) ∧ n ≤ 40 ∧ wx = w ∧ Hid (FWin w A l))
  case first =>
    by_cases hs : 40 < N0
    · have d : decide ((40 : Int) < (N0 : Int)) = true := by simp; omega
      obtain ⟨b, off, rfl, _⟩ := HF0.out.c0 (k := 0) (by have := HN0.out; omega)
      go_wp2_with (fail)
      go_meet
      exact ⟨ws.take 40, 40, c, rfl, Lib.hid (by have := HN0.out; simp; omega), by omega, rfl, Lib.hid (HF0.out.take 40)⟩
    · have d : decide ((40 : Int) < (N0 : Int)) = false := by simp; omega
      go_wp2_with (fail)
      go_meet
      exact ⟨ws, N0, c, rfl, HN0, by omega, rfl, HF0⟩
  case rest =>
    obtain ⟨l, n, c1, rfl, HN, h40, hwc, HF⟩ := hcut
    subst hwc
    clear HF0 HN0 hc hm
    go_wp2_with (fail)
    have CONV := Lib.hid (conv_any _ A c1 l HF.out (by have := HN.out; omega))
    rw [← HN.out] at CONV
    refine CONV.out.mono ?_
    rintro e W1 ⟨g, cap, ts, rfl, tl, b1, rw1, cv, nd⟩
    have B1 := Lib.hid b1
    have CV := Lib.hid cv
    have TL := Lib.hid tl
    have RW := Lib.hid (conv_row tl rw1)
    have LR := Lib.hid (conv_lreps tl cv (fun x hx => by
      obtain ⟨i, hi, rfl⟩ := List.getElem_of_mem hx
      obtain ⟨b, off, ia, ic, ca, cc, e, q⟩ := HF.out i hi
      exact q.small))
    rw [← HN.out] at RW
    have xl : (ordArg l).length = n := by unfold ordArg; rw [List.length_map, HN.out]
    obtain ⟨r, hr⟩ := ord_some 50 (ordArg l) [] (by omega)
    have ORD := Lib.hid (order_some W1 _ _ ts (ordArg l) RW.out LR.out (by omega) 50 r hr)
    have HR := Lib.hid hr
    have XL := Lib.hid xl
    clear CONV hr b1 cv tl rw1 xl nd LR
    rw [← HN.out]
    go_wp2_with (fail)
    refine ORD.out.mono ?_
    rintro e W2 hp
    clear ORD
    cases r with
    | ok out =>
      obtain ⟨b2, v, rfl, ro⟩ := hp
      obtain ⟨Ao, co, rfl⟩ := ro.slice
      have BO := Lib.hid (behOk HR.out)
      have HON : Hid (n = out.length) := by
        show n = out.length
        rw [BO.out.len, XL.out]
      rw [← HON.out] at ro
      have B2 := Lib.hid (b_then B1.out b2)
      have RO := Lib.hid ro
      clear HR b2 ro RW B1 CV
      rw [← HON.out]
      go_wp2_with (fail)
      have VA := Lib.hid (VdAt.fresh W2 0 0)
      have BV := Lib.hid (b_alloc B2.out (.cells #[.int .i64 0, .int .u16 0] 33))
      have BW := Lib.hid (b_alloc (Below.refl W2.heap.size W2) (.cells #[.int .i64 0, .int .u16 0] 33))
      refine (fixed_any _ (HT0.out.below BV.out)).mono ?_
      rintro e W3 ⟨rfl, b3⟩
      have VA3 := Lib.hid (VA.out.below b3)
      have BW3 := Lib.hid (b_then BW.out b3)
      have BV3 := Lib.hid (b_then BV.out b3)
      have RO3 : Hid (RowU W3 W1.heap.size (.slice Ao n co) out) := RO.out.below BW3.out
      have HF3 := Lib.hid (HF.out.below BV3.out)
      obtain ⟨X, hX⟩ : ∃ X, X = W2.heap.size := ⟨_, rfl⟩
      rw [← hX] at VA3 ⊢
      have v0 := VA3.out.c0
      have v1 := VA3.out.c1
      clear VA BV BW b3 BW3 hX RO B2 HF
      go_wp2_with (fail)
      go_loopw [6] (fun i wr => ∃ k : Nat, k ≤ n ∧ i = .int .i64 (k : Int) ∧ Hid (Below W3.heap.size W3 wr)) (fun i _ => n - (intOf i).toNat)
      case atStart => exact ⟨0, by omega, rfl, Lib.hid (Below.refl _ _)⟩
      case round =>
        obtain ⟨k, hk, rfl, hb⟩ := hrel
        by_cases hlt : k < n
        · have hkl : k < l.length := by rw [← HN.out]; exact hlt
          obtain ⟨b, off, ia, ic, ca, cc, rfl, hw0⟩ := (HF3.out.below hb.out) k hkl
          obtain ⟨x, hx⟩ : ∃ x, x = l[k] := ⟨_, rfl⟩
          rw [← hx] at hw0
          have HX := Lib.hid hx
          obtain ⟨k0, hk0, ho0, hin⟩ := BO.out.at_ k (by rw [XL.out]; exact hlt)
          have ex : (ordArg l)[k]'(by rw [XL.out]; exact hlt) = (x.at_, x.calls) := by
            rw [hx]; simp [ordArg]
          rw [ex] at ho0 hin
          have W0 := Lib.hid hw0
          have c0 := hw0.c0
          have c2 := hw0.c2
          obtain ⟨a, ha⟩ : ∃ a, a = x.at_ := ⟨_, rfl⟩
          obtain ⟨m, hm⟩ : ∃ m, m = x.calls.length := ⟨_, rfl⟩
          have hm2 := hw0.small
          rw [← ha] at c0 ho0
          rw [← hm] at c2 hm2
          have HM := Lib.hid hm
          have HO0 := Lib.hid ho0
          have HIN := Lib.hid hin
          have hk0n : k0 < n := by rw [HON.out]; exact hk0
          clear hx hw0 ex ho0 hin ha hm
          have hkn : (k : Int) < (n : Int) := by omega
          obtain ⟨wa, hwa⟩ : ∃ wa, wa = wr := ⟨_, rfl⟩
          subst hwa
          go_wp2_with (fail)
          go_loopw [7, 8] (fun kv jv wq => ∃ j : Nat, j ≤ n ∧ jv = .int .i64 (j : Int) ∧ kv = .int .i64 (kAt k0 j) ∧ Hid (Below wa.heap.size wa wq)) (fun _ j _ => n - (intOf j).toNat)
          case atStart => exact ⟨0, by omega, rfl, by simp [kAt], Lib.hid (Below.refl _ _)⟩
          case round =>
            obtain ⟨j, hj, rfl, rfl, hq⟩ := hrel
            have c0' := keep_cell c0 hq.out
            by_cases hlj : j < n
            · have hjo : j < out.length := by rw [← HON.out]; exact hlj
              obtain ⟨go, rfl, o0⟩ := RO3.out.at_ hjo
              have o1 := keep_cell (keep_cell o0 hb.out) hq.out
              have hjn : (j : Int) < (n : Int) := by omega
              obtain ⟨y, hy⟩ : ∃ y, y = out[j] := ⟨_, rfl⟩
              have inj : y = a ↔ j = k0 := by
                rw [hy, ← HO0.out]
                exact List.getElem_inj BO.out.nd
              rw [← hy] at o1
              clear hy o0
              have NX : Hid (∀ nq, Below wa.heap.size wa (wr.drewN nq)) := fun nq => b_drewN hq.out nq
              by_cases e : y = a
              · have ej := inj.1 e
                have ek : kAt k0 j = -1 := by simp [kAt, ej]
                have ek2 : kAt k0 (j + 1) = (j : Int) := by simp [kAt, ej]
                rw [ek]
                have EK2 := Lib.hid ek2
                clear inj ej ek ek2
                subst e
                go_wp2_with (fail)
                go_quiet (fail)
                go_wp2_with (fail)
                go_roundw
                case rel => exact ⟨j + 1, hlj, by go_num, by rw [EK2.out], NX.out nq⟩
                case measure => first | (simp [intOf]; done) | (simp [intOf]; omega)
              · have ek2 : kAt k0 (j + 1) = kAt k0 j := by
                  have : j ≠ k0 := fun h => e (inj.2 h)
                  unfold kAt
                  by_cases h1 : j ≤ k0
                  · rw [if_pos h1, if_pos (by omega)]
                  · rw [if_neg h1, if_neg (by omega)]
                have EK2 := Lib.hid ek2
                obtain ⟨kk, hkk⟩ : ∃ kk, kk = kAt k0 j := ⟨_, rfl⟩
                rw [← hkk] at EK2 ⊢
                clear inj ek2 hkk
                go_wp2_with (fail)
                go_quiet (fail)
                go_wp2_with (fail)
                go_roundw
                case rel => exact ⟨j + 1, hlj, by go_num, by rw [EK2.out], NX.out nq⟩
                case measure => first | (simp [intOf]; done) | (simp [intOf]; omega)
            · have ek : kAt k0 j = (k0 : Int) := by unfold kAt; rw [if_neg (by omega)]
              have hjn : ¬ (j : Int) < (n : Int) := by omega
              have k1 : decide ((k0 : Int) < 0) = false := by simp
              rw [ek]
              have c2' := keep_cell c2 hq.out
              have CW := Lib.hid ((W0.out.calls).below hq.out)
              have BB := Lib.hid (b_then hb.out hq.out)
              obtain ⟨wb, hwb⟩ : ∃ wb, wb = wr := ⟨_, rfl⟩
              subst hwb
              obtain ⟨go, rfl, o0⟩ := RO3.out.at_ hk0
              have HAS : Hid (∀ (W : World) (y : Int), y ∈ x.calls → Below W3.heap.size W3 W → Calls Tryd.prog 22 #[.slice (some ⟨go, 0, none⟩) k0 co, .int .u16 y] W fun e w' => e = .returned (.bool true) ∧ w' = W) := fun W y hy hW => by
                have hA : AtsIn W (some ⟨go, 0, none⟩) (out.take k0) := ⟨by simp; omega, fun i hi => by
                  have hi' : i < out.length := by simp at hi; omega
                  obtain ⟨g', e', q⟩ := RO3.out.at_ hi'
                  cases e'
                  exact ⟨go, 0, rfl, by rw [Nat.zero_add, List.getElem_take]; exact keep_cell q hW⟩⟩
                have := has_any W (some ⟨go, 0, none⟩) k0 co (out.take k0) y (by simp; omega) hA
                rwa [decide_eq_true (HIN.out y hy)] at this
              clear ek c2 hq W0 hb o0 c0'
              go_wp2_with (fail)
              go_loopw [9] (fun jv wq => ∃ j : Nat, j ≤ m ∧ jv = .int .i64 (j : Int) ∧ Hid (Below wb.heap.size wb wq)) (fun j _ => m - (intOf j).toNat)
              case atStart => exact ⟨0, by omega, rfl, Lib.hid (Below.refl _ _)⟩
              case round =>
                obtain ⟨j2, hj2, rfl, hq⟩ := hrel
                have c3 := keep_cell c2' hq.out
                by_cases hl2 : j2 < m
                · have hjm : (j2 : Int) < (m : Int) := by omega
                  obtain ⟨bc, oc, rfl, d0⟩ := CW.out.at_ j2 (by rw [← HM.out]; exact hl2)
                  have d1 := keep_cell d0 hq.out
                  obtain ⟨y, hy⟩ : ∃ y, y = x.calls[j2]'(by rw [← HM.out]; exact hl2) := ⟨_, rfl⟩
                  rw [← hy] at d1
                  have HS : Hid (∀ nq, Calls Tryd.prog 22 #[.slice (some ⟨go, 0, none⟩) k0 co, .int .u16 y] (wr.drewN nq) fun e w' => e = .returned (.bool true) ∧ w' = (wr.drewN nq)) := fun nq =>
                    HAS.out _ y (by rw [hy]; exact List.getElem_mem _) (b_drewN (b_then BB.out hq.out) nq)
                  have NX : Hid (∀ nq, Below wb.heap.size wb (wr.drewN nq)) := fun nq => b_drewN hq.out nq
                  clear hy d0
                  have hkc : k0 ≤ co := by have := (ownsRow_some (n := n) (xs := out.map (Value.int .u16)) (by have := RO3.out; unfold RowU at this; rw [← HON.out] at this; exact this)).2.2; omega
                  have hkc2 : (k0 : Int) ≤ (co : Int) := by omega
                  go_wp2_with (fail)
                  go_big_quiet (first | (go_at_call 22; refine Calls.quiet_of_same (HS.out _)))
                  go_wp2_with (fail)
                  go_roundw
                  case rel => exact ⟨j2 + 1, hl2, by go_num, NX.out nq⟩
                  case measure => first | (simp [intOf]; done) | (simp [intOf]; omega)
                · have hjm : ¬ (j2 : Int) < (m : Int) := by omega
                  have NX : Hid (Below W3.heap.size W3 wr) := b_then BB.out hq.out
                  go_wp2_with (fail)
                  go_roundw
                  case rel => exact ⟨k + 1, hlt, by go_num, NX⟩
                  case measure => first | (simp [intOf]; done) | (simp [intOf]; omega)
        · have hkn : ¬ (k : Int) < (n : Int) := by omega
          have v1' := keep_cell v1 hb.out
          have FIN := Lib.hid (b_then BV3.out hb.out)
          go_wp2_with (fail)
          go_ret
          exact ⟨rfl, FIN.out⟩
    | error a =>
      obtain ⟨b2, hp⟩ := hp
      have hp' : e = .returned (.tuple #[.slice none 0 0, .agg #[.int .i64 163, .int .u16 a]]) := hp
      subst hp'
      have B2 := Lib.hid (b_then B1.out b2)
      have RW2 := Lib.hid (RW.out.move (W := W2) (fun k hk => b2.block k (RW.out.own k hk).1))
      have TH := Lib.hid (isAt_all HR.out)
      have AT := Lib.hid (fun (i : Nat) (h1 : i < ts.length) (h2 : i < l.length) => (CV.out i h1 h2).at_)
      clear hp b2 CV RW HR XL
      go_wp2_with (fail)
      have VA := Lib.hid (VdAt.fresh W2 163 a)
      have BV := Lib.hid (b_alloc B2.out (.cells #[.int .i64 163, .int .u16 a] 33))
      have BW := Lib.hid (b_alloc (Below.refl W2.heap.size W2) (.cells #[.int .i64 163, .int .u16 a] 33))
      refine (fixed_any _ (HT0.out.below BV.out)).mono ?_
      rintro e W3 ⟨rfl, b3⟩
      have VA3 := Lib.hid (VA.out.below b3)
      have BW3 := Lib.hid (b_then BW.out b3)
      have BV3 := Lib.hid (b_then BV.out b3)
      have RW3 := Lib.hid (RW2.out.move (W := W3) (fun k hk => BW3.out.block k (RW2.out.own k hk).1))
      have HF3 := Lib.hid (HF.out.below BV3.out)
      obtain ⟨X, hX⟩ : ∃ X, X = W2.heap.size := ⟨_, rfl⟩
      rw [← hX] at VA3 ⊢
      have v0 := VA3.out.c0
      have v1 := VA3.out.c1
      have HF0 := Lib.hid HF.out
      clear VA BV BW b3 BW3 hX RW2 B2 HF
      go_wp2_with (fail)
      go_loopw [10, 11] (fun t i wr => ∃ k : Nat, k ≤ n ∧ i = .int .i64 (k : Int) ∧ t = .bool (isAt a (l.take k)) ∧ Hid (Below W3.heap.size W3 wr)) (fun _ i _ => n - (intOf i).toNat)
      case atStart => exact ⟨0, by omega, rfl, by simp [isAt], Lib.hid (Below.refl _ _)⟩
      case round =>
        obtain ⟨k, hk, rfl, rfl, hb⟩ := hrel
        by_cases hlt : k < n
        · have hkl : k < l.length := by rw [← HN.out]; exact hlt
          obtain ⟨b, off, rfl, q0⟩ := HF3.out.c0 hkl
          have c0 := keep_cell q0 hb.out
          have v1' := keep_cell v1 hb.out
          have ST := Lib.hid (isAt_take (a := a) hkl)
          obtain ⟨y, hy⟩ : ∃ y, y = (l[k]).at_ := ⟨_, rfl⟩
          rw [← hy] at c0 ST
          obtain ⟨t, ht⟩ : ∃ t, t = isAt a (l.take k) := ⟨_, rfl⟩
          rw [← ht] at ST ⊢
          have hkn : (k : Int) < (n : Int) := by omega
          have NX : Hid (∀ nq, Below W3.heap.size W3 (wr.drewN nq)) := fun nq => b_drewN hb.out nq
          clear hy ht q0 hb
          cases t with
          | true =>
            go_wp2_with (fail)
            go_quiet (fail)
            go_wp2_with (fail)
            go_roundw
            case rel => exact ⟨k + 1, hlt, by go_num, by rw [ST.out]; rfl, NX.out nq⟩
            case measure => first | (simp [intOf]; done) | (simp [intOf]; omega)
          | false =>
            go_wp2_with (fail)
            go_quiet (fail)
            go_wp2_with (fail)
            have eb : (y == a) = isAt a (l.take (k + 1)) := by rw [ST.out, Bool.false_or, Bool.eq_iff_iff]; simp
            go_roundw
            case rel => exact ⟨k + 1, hlt, by go_num, by rw [eb], NX.out nq⟩
            case measure => first | (simp [intOf]; done) | (simp [intOf]; omega)
        · have hkn : ¬ (k : Int) < (n : Int) := by omega
          have ek : isAt a (l.take k) = true := by rw [List.take_of_length_le (by have := HN.out; omega)]; exact TH.out
          rw [ek]
          have RW4 := Lib.hid (RW3.out.move (W := wr) (fun k hk => hb.out.block k (RW3.out.own k hk).1))
          have HF4 := Lib.hid (HF3.out.below hb.out)
          have BV4 := Lib.hid (b_then BV3.out hb.out)
          obtain ⟨W4, hW4⟩ : ∃ W4, W4 = wr := ⟨_, rfl⟩
          subst hW4
          clear hb ek VA3 v0 v1 RW3 HF3
          go_wp2_with (fail)
          have RW5 : Hid (RowW W4 wc.heap.size (.slice (some ⟨g, 0, none⟩) n cap) (bareN ts 0)) := by rw [bareN_zero]; exact RW4.out
          have TLN : Hid (ts.length = n) := by rw [HN.out]; exact TL.out
          go_loopw [12] (fun i wr => ∃ k : Nat, k ≤ n ∧ i = .int .i64 (k : Int) ∧ Hid (Below wc.heap.size wc wr ∧ RowW wr wc.heap.size (.slice (some ⟨g, 0, none⟩) n cap) (bareN ts k))) (fun i _ => n - (intOf i).toNat)
          case atStart => exact ⟨0, by omega, rfl, Lib.hid ⟨BV4.out, RW5.out⟩⟩
          case round =>
            obtain ⟨k2, hk2, rfl, hb⟩ := hrel
            by_cases hlt2 : k2 < n
            · have hkt : k2 < ts.length := by rw [TLN.out]; exact hlt2
              obtain ⟨g', eg, _, _, q2⟩ := hb.out.2.at_ (i := k2) (by rw [bareN_len]; exact hkt)
              obtain rfl : g = g' := by cases eg; rfl
              have gl := (ownsRow_some (n := n) (c := cap) (xs := (bareN ts k2).flatMap WT.cells) (by have := hb.out.2; unfold RowW at this; rw [bareN_len, TLN.out] at this; exact this))
              have NX : Hid (Below wc.heap.size wc (wr.setCell ⟨g, k2 * 3 + 2, none⟩ (.slice none 0 0)) ∧ RowW (wr.setCell ⟨g, k2 * 3 + 2, none⟩ (.slice none 0 0)) wc.heap.size (.slice (some ⟨g, 0, none⟩) n cap) (bareN ts (k2 + 1))) :=
                ⟨hb.out.1.setCell (p := ⟨g, k2 * 3 + 2, none⟩) gl.1 _, strikeN hb.out.2 hkt⟩
              have hkn2 : (k2 : Int) < (n : Int) := by omega
              obtain ⟨t, ht⟩ : ∃ t, t = (bareN ts k2)[k2]'(by rw [bareN_len]; exact hkt) := ⟨_, rfl⟩
              rw [← ht] at q2
              clear ht
              obtain ⟨ta, ia, il, ic, ca, cl, cc⟩ := t
              replace q2 : wr.cell? ⟨g, k2 * 3 + 2, none⟩ = some (.slice ca cl cc) := q2
              have FZ : wr.frozen? ⟨g, k2 * 3 + 2, none⟩ = false := by
                have h0 := hb.out.2
                have e0 : (bareN ts k2).length = n := by rw [bareN_len, TLN.out]
                obtain ⟨cur, hcur, _⟩ := rowW_block h0
                exact free_of hcur _
              clear hb gl eg
              go_wp2_with (fail)
              go_roundw
              case rel => exact ⟨k2 + 1, hlt2, by go_num, NX⟩
              case measure => first | (simp [intOf]; done) | (simp [intOf]; omega)
            · have hkn2 : ¬ (k2 : Int) < (n : Int) := by omega
              have ek : bareN ts k2 = ts.map WT.bare := by rw [show k2 = ts.length by have := TLN.out; omega, bareN_all]
              have RW6 : Hid (RowW wr wc.heap.size (.slice (some ⟨g, 0, none⟩) n cap) (ts.map WT.bare)) := by rw [← ek]; exact hb.out.2
              have BV6 := Lib.hid hb.out.1
              clear hb ek
              obtain ⟨W6, hW6⟩ : ∃ W6, W6 = wr := ⟨_, rfl⟩
              subst hW6
              go_wp2_with (fail)
              have AL : Hid ((l.map FW.at_).length = n) := by rw [List.length_map]; exact HN.out.symm
              have BO := Lib.hid (bare_ord 50 (l.map FW.at_) (by have := AL.out; omega))
              obtain ⟨tv, htv⟩ : ∃ tv, tv = tw (l.map FW.at_) n := ⟨_, rfl⟩
              have BO1 : Hid (tv = true → ∃ a, ord 50 ((l.map FW.at_).map fun a => (a, [])) [] = some (.error a)) := by
                have := BO.out.1
                rw [AL.out, ← htv] at this; exact this
              have BO2 : Hid (tv = false → ∃ r, ord 50 ((l.map FW.at_).map fun a => (a, [])) [] = some (.ok r) ∧ r.Pairwise (· < ·) ∧ r.length = n) := by
                have := BO.out.2
                rw [AL.out, ← htv] at this; exact this
              have LR6 := Lib.hid (bare_lreps W6 ts l TL.out AT.out)
              obtain ⟨r2, hr2⟩ := ord_some 50 ((l.map FW.at_).map fun a => (a, [])) [] (by rw [List.length_map, AL.out]; omega)
              have ORD := Lib.hid (order_some W6 _ _ (ts.map WT.bare) _ RW6.out LR6.out (by rw [List.length_map, AL.out]; omega) 50 r2 hr2)
              have HR2 := Lib.hid hr2
              have HTV := Lib.hid htv
              clear htv hr2 LR6 BO AL
              refine ORD.out.mono ?_
              rintro e W7 hp2
              clear ORD
              have b7 := hp2.1
              have BV7 := Lib.hid (b_then BV6.out hp2.1)
              have LAST : Hid (∃ (p : Option Addr) (pc : Nat) (pn : Nat) (z za : Int) (pr : List Int), e = .returned (.tuple #[.slice p pn pc, .agg #[.int .i64 z, .int .u16 za]]) ∧ pn ≤ 40 ∧ Hid (RowU W7 W6.heap.size (.slice p pn pc) pr) ∧ Hid (pr.length = pn) ∧ (tv = true → z = 163 ∧ pn = 0) ∧ (tv = false → z = 0 ∧ pn = n ∧ Hid (pr.Pairwise (· < ·)))) := by
                cases htv : tv with
                | true =>
                  obtain ⟨a', e1⟩ := BO1.out htv
                  rw [HR2.out] at e1
                  cases e1
                  exact ⟨none, 0, 0, 163, a', [], hp2.2, by omega, RowU.nil _ _, rfl, fun _ => ⟨rfl, rfl⟩, fun h => by cases h⟩
                | false =>
                  obtain ⟨q, e1, hp, hq⟩ := BO2.out htv
                  rw [HR2.out] at e1
                  cases e1
                  obtain ⟨_, v, e2, rv⟩ := hp2
                  obtain ⟨p, pc, rfl⟩ := rv.slice
                  exact ⟨p, pc, q.length, 0, 0, q, e2, by omega, rv, rfl, (fun h => by cases h), fun _ => ⟨rfl, hq, hp⟩⟩
              obtain ⟨p, pc, pn, z, za, pr, rfl, hpn, RP, PL, T1, T2⟩ := LAST.out
              have HT1 := Lib.hid T1
              have HT2 := Lib.hid T2
              clear hp2 LAST T1 T2 BO1 BO2 HR2 b7
              go_wp2_with (fail)
              have VA7 := Lib.hid (VdAt.fresh W7 z za)
              obtain ⟨W8, hW8⟩ : ∃ W8, W8 = W7.alloc (.cells #[.int .i64 z, .int .u16 za] 33) := ⟨_, rfl⟩
              have BV8 : Hid (Below wc.heap.size wc W8) := by rw [hW8]; exact b_alloc BV7.out _
              have RP8 : Hid (RowU W8 W6.heap.size (.slice p pn pc) pr) := by rw [hW8]; exact RP.out.below (b_alloc (Below.refl _ _) _)
              obtain ⟨Y, hY⟩ : ∃ Y, Y = W7.heap.size := ⟨_, rfl⟩
              have y0 : W8.cell? ⟨Y, 0, none⟩ = some (.int .i64 z) := by rw [hW8, hY]; exact VA7.out.c0
              have HF8 := Lib.hid (HF0.out.below BV8.out)
              rw [← hW8, ← hY]
              clear VA7 hW8 BV7 RP hY RW6 BV6 RW5 HF4 BV4 AT
              go_loopw [15, 16] (fun t i wr => ∃ k : Nat, k ≤ n ∧ i = .int .i64 (k : Int) ∧ t = .bool (tw (l.map FW.at_) k) ∧ Hid (Below W8.heap.size W8 wr)) (fun _ i _ => n - (intOf i).toNat)
              case atStart => exact ⟨0, by omega, rfl, rfl, Lib.hid (Below.refl _ _)⟩
              case round =>
                obtain ⟨i3, hi3, rfl, rfl, hb⟩ := hrel
                by_cases hlt3 : i3 < n
                · have hil : i3 < l.length := by rw [← HN.out]; exact hlt3
                  have hin3 : (i3 : Int) < (n : Int) := by omega
                  obtain ⟨b, off, rfl, q0⟩ := HF8.out.c0 hil
                  have c0 := keep_cell q0 hb.out
                  have GD := Lib.hid (getD_at hil)
                  obtain ⟨y, hy⟩ : ∃ y, y = (l[i3]).at_ := ⟨_, rfl⟩
                  rw [← hy] at c0 GD
                  have TS := Lib.hid (tw_succ (l.map FW.at_) i3)
                  have ST : Hid (tw (l.map FW.at_) i3 = (tw (l.map FW.at_) i3 || twi (l.map FW.at_) i3 0)) := by
                    show _ = _
                    rw [show twi (l.map FW.at_) i3 0 = false from rfl, Bool.or_false]
                  obtain ⟨t0, ht0⟩ : ∃ t0, t0 = tw (l.map FW.at_) i3 := ⟨_, rfl⟩
                  rw [← ht0] at TS ST ⊢
                  clear hy q0 ht0
                  obtain ⟨wa, hwa⟩ : ∃ wa, wa = wr := ⟨_, rfl⟩
                  subst hwa
                  go_wp2_with (fail)
                  go_loopw [15, 17] (fun t j wr => ∃ k : Nat, k ≤ i3 ∧ j = .int .i64 (k : Int) ∧ t = .bool (t0 || twi (l.map FW.at_) i3 k) ∧ Hid (Below wa.heap.size wa wr)) (fun _ j _ => i3 - (intOf j).toNat)
                  case atStart => exact ⟨0, by omega, rfl, congrArg Value.bool ST.out, Lib.hid (Below.refl _ _)⟩
                  case round =>
                    obtain ⟨j3, hj3, rfl, rfl, hq⟩ := hrel
                    by_cases hlt4 : j3 < i3
                    · have hjl : j3 < l.length := by omega
                      have hji : (j3 : Int) < (i3 : Int) := by omega
                      have hjn : j3 < n := by omega
                      have hjn2 : (j3 : Int) < (n : Int) := by omega
                      obtain ⟨b', off', eb, q0⟩ := (HF8.out.below hb.out).c0 hjl
                      cases eb
                      have d0 := keep_cell q0 hq.out
                      have c0' := keep_cell c0 hq.out
                      have GE := Lib.hid (getD_at hjl)
                      obtain ⟨x, hx⟩ : ∃ x, x = (l[j3]).at_ := ⟨_, rfl⟩
                      rw [← hx] at d0 GE
                      have SI := Lib.hid (twi_succ (l.map FW.at_) i3 j3)
                      rw [GD.out, GE.out] at SI
                      have NX : Hid (∀ nq, Below wa.heap.size wa (wr.drewN nq)) := fun nq => b_drewN hq.out nq
                      have SJ : Hid ((t0 || twi (l.map FW.at_) i3 (j3 + 1)) = ((t0 || twi (l.map FW.at_) i3 j3) || decide (y = x))) := by
                        show _ = _
                        rw [SI.out, Bool.or_assoc]
                      obtain ⟨t, ht⟩ : ∃ t, t = (t0 || twi (l.map FW.at_) i3 j3) := ⟨_, rfl⟩
                      rw [← ht] at SJ ⊢
                      clear hx ht q0 SI hq
                      cases t with
                      | true =>
                        go_wp2_with (fail)
                        go_quiet (fail)
                        go_wp2_with (fail)
                        go_roundw
                        case rel => exact ⟨j3 + 1, hlt4, by go_num, by rw [SJ.out]; rfl, NX.out nq⟩
                        case measure => first | (simp [intOf]; done) | (simp [intOf]; omega)
                      | false =>
                        go_wp2_with (fail)
                        go_quiet (fail)
                        go_wp2_with (fail)
                        have eb : (y == x) = (t0 || twi (l.map FW.at_) i3 (j3 + 1)) := by rw [SJ.out, Bool.false_or, Bool.eq_iff_iff]; simp
                        go_roundw
                        case rel => exact ⟨j3 + 1, hlt4, by go_num, by rw [eb], NX.out nq⟩
                        case measure => first | (simp [intOf]; done) | (simp [intOf]; omega)
                    · have hji : ¬ (j3 : Int) < (i3 : Int) := by omega
                      have ej : (t0 || twi (l.map FW.at_) i3 j3) = tw (l.map FW.at_) (i3 + 1) := by rw [TS.out, show j3 = i3 by omega]
                      rw [ej]
                      have NX : Hid (Below W8.heap.size W8 wr) := b_then hb.out hq.out
                      go_wp2_with (fail)
                      go_roundw
                      case rel => exact ⟨i3 + 1, hlt3, by go_num, rfl, NX⟩
                      case measure => first | (simp [intOf]; done) | (simp [intOf]; omega)
                · have hin3 : ¬ (i3 : Int) < (n : Int) := by omega
                  have ei : tw (l.map FW.at_) i3 = tv := by rw [HTV.out, show i3 = n by omega]
                  rw [ei]
                  have y0' := keep_cell y0 hb.out
                  have FIN := Lib.hid (b_then BV8.out hb.out)
                  cases tv with
                  | true =>
                    obtain ⟨rfl, rfl⟩ := HT1.out rfl
                    go_wp2_with (fail)
                    go_ret
                    exact ⟨rfl, FIN.out⟩
                  | false =>
                    obtain ⟨rfl, hpe, hris⟩ := HT2.out rfl
                    subst hpe
                    have RP9 : Hid (RowU wr W6.heap.size (.slice p pn pc) pr) := RP8.out.below hb.out
                    clear hb HTV HT1 HT2
                    obtain ⟨W9, hW9⟩ : ∃ W9, W9 = wr := ⟨_, rfl⟩
                    subst hW9
                    go_wp2_with (fail)
                    go_loopw [18] (fun i wr => ∃ k : Nat, 1 ≤ k ∧ (k ≤ pn ∨ k = 1) ∧ i = .int .i64 (k : Int) ∧ Hid (Below W9.heap.size W9 wr)) (fun i _ => pn - (intOf i).toNat)
                    case atStart => exact ⟨1, by omega, .inr rfl, rfl, Lib.hid (Below.refl _ _)⟩
                    case round =>
                      obtain ⟨k5, hk5, hk6, rfl, hq⟩ := hrel
                      by_cases hlt5 : k5 < pn
                      · have hkp : (k5 : Int) < (pn : Int) := by omega
                        obtain ⟨k4, rfl⟩ : ∃ k4, k5 = k4 + 1 := ⟨k5 - 1, by omega⟩
                        obtain ⟨gp, rfl, d0⟩ := RP9.out.at_ (i := k4) (by have := PL.out; omega)
                        obtain ⟨gp', ep, d1⟩ := RP9.out.at_ (i := k4 + 1) (by have := PL.out; omega)
                        cases ep
                        have d0' := keep_cell d0 hq.out
                        have d1' := keep_cell d1 hq.out
                        have hlt := List.pairwise_iff_getElem.1 hris.out k4 (k4 + 1) (by have := PL.out; omega) (by have := PL.out; omega) (by omega)
                        obtain ⟨x0, hx0⟩ : ∃ x, x = pr[k4]'(by have := PL.out; omega) := ⟨_, rfl⟩
                        obtain ⟨x1, hx1⟩ : ∃ x, x = pr[k4 + 1]'(by have := PL.out; omega) := ⟨_, rfl⟩
                        rw [← hx0] at d0' hlt
                        rw [← hx1] at d1' hlt
                        have NX : Hid (∀ nq, Below W9.heap.size W9 (wr.drewN nq)) := fun nq => b_drewN hq.out nq
                        have dge : decide (x1 ≤ x0) = false := by simp; omega
                        clear hx0 hx1 d0 d1 hq
                        go_wp2_with (fail)
                        go_quiet (fail)
                        go_wp2_with (fail)
                        go_roundw
                        case rel => exact ⟨k4 + 1 + 1, by omega, .inl hlt5, by go_num, NX.out nq⟩
                        case measure => first | (simp [intOf]; done) | (simp [intOf]; omega)
                      · have hkp : ¬ (k5 : Int) < (pn : Int) := by omega
                        have y1 := keep_cell y0' hq.out
                        have FIN2 := Lib.hid (b_then FIN.out hq.out)
                        go_wp2_with (fail)
                        go_ret
                        exact ⟨rfl, FIN2.out⟩
end Go.Proofs.YtabeljpnmmfpgaaDoor
