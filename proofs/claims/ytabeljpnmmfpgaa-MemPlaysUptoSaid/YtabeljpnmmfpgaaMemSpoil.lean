/-
  apart of the law's text: true, and only the lists' own blocks have turned.
  spoil of the law's text: true, and only what the image hands out has turned.
-/
import Derived.Test.YtabeljpnmmfpgaaMemApart1
import Derived.Maps.AppendAt
import Derived.Test.YtabeljpnmmfpgaaMemOwn
import Derived.Test.YtabeljpnmmfpgaaMemTones
namespace Go.Proofs.Ytabeljpnmmfpgaa
open Go.RowKit Go.MapKept
set_option linter.unusedVariables false
set_option linter.unusedSimpArgs false

theorem infoSl : (Try.prog.info? 35).map (fun i => (i.zero, i.size, i.bytes)) = some (some (.slice none 0 0), 1, 24) := by kernel_rfl

/-- A slice of slices reads as vs. -/
structure RowIn (w : World) (lb lo N : Nat) (vs : Nat → Value) : Prop where
  cell : ∀ i, i < N → w.cell? ⟨lb, lo + i, none⟩ = some (vs i)

theorem RowIn.keep {w W : World} {lb lo N : Nat} {vs : Nat → Value} (h : RowIn w lb lo N vs) (e : W.heap[lb]? = w.heap[lb]?) : RowIn W lb lo N vs :=
  ⟨fun i hi => (World.cell?_of_block e).trans (h.cell i hi)⟩

theorem longCells_lo {ns : Nat → Nat} {k j : Nat} (h : j < ns k) : (longCells ns k)[j]? = some (.int .u8 (bt k 1)) := by
  unfold longCells
  rw [List.getElem?_append_left (by simpa using h), List.getElem?_replicate, if_pos h]
theorem longCells_hi {ns : Nat → Nat} {k j : Nat} (h : ns k ≤ j) (h2 : j < ns k + 80) : (longCells ns k)[j]? = some (.int .u8 (bt k 101)) := by
  unfold longCells
  rw [List.getElem?_append_right (by simpa using h), List.length_replicate, List.getElem?_replicate, if_pos (by omega)]

set_option maxRecDepth 100000 in
set_option maxHeartbeats 4000000 in
theorem apart_any (w : World) (lb lo N c : Nat) (vs : Nat → Value) (gs ns : Nat → Nat) (hrow : RowIn w lb lo N vs) (hlb : lb < w.heap.size) (hL : Lists w N vs gs ns) (hne : ∀ i, i < N → gs i ≠ lb) (hN : N ≤ 10000000) (hN0 : 0 < N) :
    Calls Try.prog 53 #[.slice (some ⟨lb, lo, none⟩) N c] w fun e w' => e = .returned (.bool true) ∧ Upd w w' (fun b => ∃ i, i < N ∧ b = gs i) := by
  have Keep : Hid (∀ W, Upd w W (fun b => ∃ i, i < N ∧ b = gs i) → RowIn W lb lo N vs) := fun W hu => hrow.keep (hu.block lb hlb (fun ⟨i, hi, e⟩ => hne i hi e.symm))
  have Start := Lib.hid (Wrt.start hL)
  have Hns := Lib.hid hL.small
  have Hgs : Hid (∀ i, i < N → gs i < w.heap.size) := fun i hi => by obtain ⟨c, cs, t, _, h2, _⟩ := hL.own i hi; exact heap_lt h2
  have Hinj := Lib.hid hL.inj
  have HV : Hid (∀ i, i < N → ∃ c, vs i = .slice (some ⟨gs i, 0, none⟩) (ns i) c) := fun i hi => by obtain ⟨c, cs, t, h1, _⟩ := hL.own i hi; exact ⟨c, h1⟩
  obtain ⟨i0, hi, hz0, hz1, hz2⟩ := info_parts infoU8
  obtain ⟨i1, hj, hy0, hy1, hy2⟩ := info_parts infoSl
  clear hrow hL
  go_enter Try.func53, Try.ntmps53
  go_wp2_with (fail)
  go_loopw [14] (fun i wr => ∃ k : Nat, k ≤ N ∧ i = .int .i64 k ∧ Wrt w wr N vs gs ns k 0) (fun i _ => N - (intOf i).toNat)
  case atStart => exact ⟨0, Nat.zero_le _, rfl, Start.out⟩
  case round =>
    obtain ⟨k, hk, rfl, hrel⟩ := hrel
    by_cases hlt : k < N
    · obtain ⟨c0, cs0, t0, hv, hb, hc1, hc2⟩ := hrel.lists.own k hlt
      have c1 : wr.cell? ⟨lb, lo + k, none⟩ = some (.slice (some ⟨gs k, 0, none⟩) (ns k) c0) := hv ▸ (Keep.out _ hrel.upd).cell k hlt
      have hsm := Hns.out k hlt
      have Hrel := Lib.hid hrel
      have Hv := Lib.hid hv
      clear hrel hv hb hc1 hc2
      go_wp2_with (fail)
      obtain ⟨wo, rfl⟩ : ∃ wo : World, wo = wr := ⟨_, rfl⟩
      go_loopw [22] (fun j wr => ∃ m : Nat, m ≤ ns k ∧ j = .int .i64 m ∧ Wrt w wr N vs gs ns k m) (fun j _ => ns k - (intOf j).toNat)
      case atStart => exact ⟨0, Nat.zero_le _, rfl, Hrel.out⟩
      case round =>
        obtain ⟨m, hm, rfl, hrel⟩ := hrel
        by_cases hlm : m < ns k
        · obtain ⟨c0', cs1, t1, hv1, hb1, hd1, hd2⟩ := hrel.lists.own k hlt
          have e1 : wr.cell? ⟨lb, lo + k, none⟩ = some (.slice (some ⟨gs k, 0, none⟩) (ns k) c0) := Hv.out ▸ (Keep.out _ hrel.upd).cell k hlt
          obtain ⟨q, hq⟩ : ∃ q, cs1[m]? = some q := ⟨_, Array.getElem?_eq_getElem (by omega)⟩
          have e2 : wr.cell? ⟨gs k, m, none⟩ = some q := by rw [cell_of hb1]; exact hq
          have e3 : wr.frozen? ⟨gs k, m, none⟩ = false := free_of hb1 m
          have Step := Lib.hid (hrel.step hlt hlm)
          clear hrel hv1 hb1 hd1 hd2 hq
          unfold bt at Step
          go_wp2_with (fail)
          go_roundw
          case rel => exact ⟨m + 1, hlm, by go_num, Step.out⟩
          case measure => simp [intOf]; omega
        · have hme : m = ns k := by omega
          subst hme
          have Step := Lib.hid hrel.round
          clear hrel
          go_wp2_with (fail)
          go_roundw
          case rel => exact ⟨k + 1, hlt, by go_num, Step.out⟩
          case measure => simp [intOf]; omega
    · have hke : N = k := by omega
      subst hke
      have Start2 := Lib.hid (Grw.start hrel)
      clear hrel
      go_wp2_with (fail)
      go_loopw [5, 38] (fun lv i wr => ∃ (k : Nat) (us : Nat → Value) (hs : Nat → Nat), k ≤ N ∧ i = .int .i64 k ∧ Grw w wr N vs gs ns k lv us hs) (fun _ i _ => N - (intOf i).toNat)
      case atStart => exact ⟨0, _, _, Nat.zero_le _, rfl, Start2.out⟩
      case round =>
        obtain ⟨k, us, hs, hk, rfl, hrel⟩ := hrel
        by_cases hlt : k < N
        · obtain ⟨c0, cs0, t0, hv, hb, hc1, hc2⟩ := hrel.lists k hlt (Nat.le_refl _)
          have c1 : wr.cell? ⟨lb, lo + k, none⟩ = some (.slice (some ⟨gs k, 0, none⟩) (ns k) c0) := hv ▸ (Keep.out _ hrel.upd).cell k hlt
          have hsm := Hns.out k hlt
          have Hrel := Lib.hid hrel
          have Hv := Lib.hid hv
          have S0 := Lib.hid (hv ▸ Gro.start hrel hlt)
          have hgk := Hgs.out k hlt
          have hsz := hrel.upd.size
          clear hrel hv hb hc1 hc2
          go_wp2_with (fail)
          obtain ⟨wo, rfl⟩ : ∃ wo : World, wo = wr := ⟨_, rfl⟩
          go_loopw [7, 8] (fun x j wr => ∃ m : Nat, m ≤ 80 ∧ j = .int .i64 m ∧ Gro wo wr gs ns k m x) (fun _ j _ => 80 - (intOf j).toNat)
          case atStart => exact ⟨0, Nat.zero_le _, rfl, S0.out⟩
          case round =>
            obtain ⟨m, hm, rfl, hrel⟩ := hrel
            obtain ⟨g, hLx, hgx⟩ := hrel.x
            have HL := Lib.hid hLx
            obtain ⟨_, cx, csx, tx, rfl, _⟩ := hLx
            by_cases hlm : m < 80
            · have HG := Lib.hid hrel
              have HL1 : Hid (Lst (wr.alloc (.cells #[.int .u8 ((↑k + 101) % 256)] 5)) (.slice (some ⟨g, 0, none⟩) (ns k + m) cx) g (ns k + m) (List.replicate (ns k) (.int .u8 (bt k 1)) ++ List.replicate m (.int .u8 (bt k 101)))) := HL.out.keep (Below.heap_alloc _ _ _ HL.out.lt)
              have Hgx := Lib.hid hgx
              clear hrel hgx
              go_wp2_with (at_builtin; refine wpList_append_lst rfl (.tmp 49) (.tmp 53) 35 5 i0 (.int .u8 0) rfl Try.underlying35 hi hz0 hz1 hz2 rfl _ g (ns k + m) _ rfl HL1.out wr.heap.size 1 (.int .u8 ((↑k + 101) % 256)) rfl (by rw [cell_of (heap_alloc_at wr _)]; rfl) rfl (by omega) ?_; intro v' g' w' hL' hu' hg'; have Nx := Lib.hid (HG.out.step HL.out Hgx.out (by omega) hL' hu' hg'); clear hL' hu' hg')
              go_roundw
              case rel => exact ⟨m + 1, hlm, by go_num, Nx.out⟩
              case measure => simp [intOf]; omega
            · have hme : m = 80 := by omega
              subst hme
              have hu := hrel.upd
              have hty : ∀ b, u5.ownBlock = some b → b ≠ gs k ∧ w.heap.size ≤ b := fun b hb => by have := (Hrel.out.row.lt b hb); exact ⟨by omega, this.1⟩
              have HR1 : Hid ((wr.alloc (.cells #[.slice (some ⟨g, 0, none⟩) (ns k + 80) cx] 35)).ownsRow w.heap.size 35 1 u5 k ((List.range k).map us)) := (ownsRow_heap Hrel.out.row (fun b hb => hu.block b (Hrel.out.row.lt b hb).2 (hty b hb).1)).alloc _
              have Hty := Lib.hid hty
              have HG := Lib.hid hrel
              have hszo := hu.size
              clear hrel hu hty hgx
              go_wp2_with (at_builtin; refine wpList_append_own_at _ rfl (.tmp 55) (.tmp 57) 102 rfl w.heap.size 35 i1 _ 1 24 Try.underlying102 hj hy0 hy1 hy2 rfl (by decide) u5 k _ rfl HR1.out ⟨wr.heap.size, 0, none⟩ 1 1 [.slice (some ⟨g, 0, none⟩) (ns k + 80) cx] rfl rfl (cell_one_new _ _ _) (by simp [Value.oneCell']) (by simp only [maxLen]; omega) (by omega) (by simp; omega) ?_; intro v' w' ho' hgr' hnil' hat'; have Nx := Lib.hid (Hrel.out.step hlt Hgs.out Hinj.out HG.out ho' hgr' hat' Hty.out); clear ho' hgr' hnil' hat')
              go_roundw
              case rel => obtain ⟨us', hs', hr'⟩ := Nx.out; exact ⟨k + 1, us', hs', hlt, by go_num, hr'⟩
              case measure => simp [intOf]; omega
        · have hke : N = k := by omega
          subst hke
          have hF := Lib.hid hrel
          have hrow := hrel.row
          obtain ⟨q, cq, rfl, hq⟩ : ∃ q cq, u5 = .slice (some ⟨q, 0, none⟩) N cq ∧ ∀ i, i < N → wr.cell? ⟨q, i, none⟩ = some (us i) := by
            rcases hrow.2 with ⟨_, h0⟩ | ⟨q, cap, cur, rfl, h1, h2, h3, h4, h5, h6⟩
            · omega
            · refine ⟨q, cap, rfl, fun i hi => ?_⟩
              rw [cell_of h2, ← Array.getElem?_toList]
              have : ((List.range N).map us)[i]? = some (us i) := by rw [List.getElem?_map, List.getElem?_range hi]; rfl
              rw [← h6, List.getElem?_take] at this
              split at this
              · exact this
              · cases this
          have Hq := Lib.hid hq
          clear hrel hrow hq
          go_wp2_with (fail)
          go_loop [62] (fun i => ∃ j : Nat, j ≤ N ∧ i = .int .i64 j) (fun i => N - (intOf i).toNat)
          case atStart => exact ⟨0, Nat.zero_le _, rfl⟩
          case round =>
            obtain ⟨j, hjk, rfl⟩ := hrel
            by_cases hjl : j < N
            · obtain ⟨c0, hv⟩ := HV.out j hjl
              have d1 : wr.cell? ⟨lb, lo + j, none⟩ = some (.slice (some ⟨gs j, 0, none⟩) (ns j) c0) := hv ▸ (Keep.out _ hF.out.upd).cell j hjl
              obtain ⟨⟨_, c2, cs2, t2, hu2, hb2, hn2, hc2, hx2⟩, _⟩ := hF.out.done j hjl
              have d2 : wr.cell? ⟨q, j, none⟩ = some (.slice (some ⟨hs j, 0, none⟩) (ns j + 80) c2) := hu2 ▸ Hq.out j hjl
              have Hx : Hid (∀ m u, (longCells ns j)[m]? = some u → wr.cell? ⟨hs j, m, none⟩ = some u) := fun m u hm => by rw [cell_of hb2]; exact hx2 m u hm
              have Hat : Hid (∀ m, m < ns j → wr.cell? ⟨gs j, m, none⟩ = some (.int .u8 (bt j 1))) := hF.out.at' j hjl
              have hsm := Hns.out j hjl
              clear hv hu2 hb2 hn2 hc2 hx2
              go_wp2_with (fail)
              go_loop [70] (fun i => ∃ m : Nat, m ≤ ns j + 80 ∧ i = .int .i64 m) (fun i => ns j + 80 - (intOf i).toNat)
              case atStart => exact ⟨0, Nat.zero_le _, rfl⟩
              case round =>
                obtain ⟨m, hm, rfl⟩ := hrel
                by_cases hml : m < ns j
                · have f1 := Hx.out m _ (longCells_lo hml)
                  have f2 := Hat.out m hml
                  unfold bt at f1 f2
                  go_wp2_with (fail)
                  go_round
                  case rel => exact ⟨m + 1, by omega, by go_num⟩
                  case measure => simp [intOf]; omega
                · by_cases hml2 : m < ns j + 80
                  · have f1 := Hx.out m _ (longCells_hi (by omega) hml2)
                    unfold bt at f1
                    go_wp2_with (fail)
                    go_round
                    case rel => exact ⟨m + 1, by omega, by go_num⟩
                    case measure => simp [intOf]; omega
                  · go_wp2_with (fail)
                    go_round
                    case rel => exact ⟨j + 1, by omega, by go_num⟩
                    case measure => simp [intOf]; omega
            · go_wp2_with (fail)
              go_ret
              exact ⟨rfl, hF.out.upd⟩
end Go.Proofs.Ytabeljpnmmfpgaa

namespace Go.Proofs.Ytabeljpnmmfpgaa
open Go.RowKit Go.MapKept
set_option linter.unusedVariables false
set_option linter.unusedSimpArgs false

/-- The row of lists in the making. -/
structure SpRel (w W : World) (V : Array Value) (k : Nat) (v : Value) (dv : Nat → Value) : Prop where
  below : Below w.heap.size w W
  box : W.heap[w.heap.size]? = some (.cells V 49 (0, 0))
  row : W.ownsRow (w.heap.size + 1) 35 1 v k ((List.range k).map dv)

theorem SpRel.start (w : World) (V : Array Value) (dv : Nat → Value) : SpRel w (w.alloc (.cells V 49)) V 0 (.slice none 0 0) dv :=
  ⟨(Below.refl _ _).alloc (Nat.le_refl _) _, heap_alloc_at w _, World.ownsRow_nil _ _ _ _⟩

theorem SpRel.step {w W w' : World} {V X Y : Array Value} {t t' : TypeId} {k : Nat} {v v' : Value} {dv : Nat → Value} (h : SpRel w W V k v dv) (hrow : w'.ownsRow (w.heap.size + 1) 35 1 v' (k + 1) ((List.range k).map dv ++ [dv k])) (hg : ((W.alloc (.cells X t)).alloc (.cells Y t')).grownBy w' v.ownBlock) : SpRel w w' V (k + 1) v' dv := by
  have hsz := h.below.size
  have hlt := heap_lt h.box
  refine ⟨?_, ?_, ?_⟩
  · exact Below.grown ((h.below.alloc hsz _).alloc (by simp; omega) _) hg (by simp; omega) (fun q hq => by have := (h.row.lt q hq).1; omega)
  · rw [hg.block _ (by simp; omega) (fun e => by have := (h.row.lt _ e.symm).1; omega), Below.heap_alloc _ _ _ (by simp; omega), Below.heap_alloc _ _ _ hlt]
    exact h.box
  · rw [List.range_succ, List.map_append]; exact hrow

theorem Lists.below {w W : World} {N : Nat} {vs : Nat → Value} {gs ns : Nat → Nat} (h : Lists w N vs gs ns) (hb : Below w.heap.size w W) : Lists W N vs gs ns :=
  ⟨fun i hi => by obtain ⟨c, cs, t, h1, h2, h3⟩ := h.own i hi; exact ⟨c, cs, t, h1, (hb.block _ (heap_lt h2)).trans h2, h3⟩, h.inj, h.small⟩

/-- What an image hands out, said of a later world. -/
def Handed2 (w0 : World) (B : Nat) (w : World) (n : Nat) (dv : Nat → Value) (r s : Value) : Prop :=
  ∃ gs ns : Nat → Nat, Lists w (n + 2) (fun i => if i < n then dv i else if i = n then r else s) gs ns ∧ ∀ i, i < n + 2 → w0.heap.size ≤ gs i ∧ gs i < B
theorem Handed.later {w0 w1 w : World} {n : Nat} {dv : Nat → Value} {r s : Value} {T : Nat → Prop} (h : Handed w0 w1 n dv r s) (hu : Upd w1 w T) (hT : ∀ x, T x → w0.heap.size ≤ x → x < w1.heap.size → False) : Handed2 w0 w1.heap.size w n dv r s := by
  obtain ⟨gs, ns, hL, hn⟩ := h
  have lt : ∀ i, i < n + 2 → gs i < w1.heap.size := fun i hi => by obtain ⟨c, cs, t, _, h2, _⟩ := hL.own i hi; exact heap_lt h2
  exact ⟨gs, ns, ⟨fun i hi => by obtain ⟨c, cs, t, h1, h2, h3⟩ := hL.own i hi; exact ⟨c, cs, t, h1, (hu.block _ (lt i hi) (fun ht => hT _ ht (hn i hi) (lt i hi))).trans h2, h3⟩, hL.inj, hL.small⟩, fun i hi => ⟨hn i hi, lt i hi⟩⟩

/-- The row is whole: what apart asks of it. -/
theorem SpRel.close {w W w' : World} {V X : Array Value} {t : TypeId} {n : Nat} {v v' r s : Value} {dv : Nat → Value} (h : SpRel w W V n v dv) (hrow : w'.ownsRow (w.heap.size + 1) 35 1 v' (n + 2) ((List.range n).map dv ++ [r, s])) (hg : (W.alloc (.cells X t)).grownBy w' v.ownBlock) :
    ∃ q c, v' = .slice (some ⟨q, 0, none⟩) (n + 2) c ∧ Hid (Below w.heap.size w w' ∧ w.heap.size < q ∧ q < w'.heap.size ∧ RowIn w' q 0 (n + 2) (fun i => if i < n then dv i else if i = n then r else s)) := by
  have hsz := h.below.size
  rcases hrow.2 with ⟨_, h0⟩ | ⟨q, cap, cur, rfl, h1, h2, h3, h4, h5, h6⟩
  · omega
  · refine ⟨q, cap, rfl, Below.grown (h.below.alloc hsz _) hg (by simp; omega) (fun q hq => by have := (h.row.lt q hq).1; omega), h1, heap_lt h2, ⟨fun i hi => ?_⟩⟩
    rw [Nat.zero_add, cell_of h2, ← Array.getElem?_toList]
    have : ((List.range n).map dv ++ [r, s])[i]? = some (if i < n then dv i else if i = n then r else s) := by
      by_cases e1 : i < n
      · rw [if_pos e1, List.getElem?_append_left (by simpa using e1), List.getElem?_map, List.getElem?_range e1]; rfl
      · rw [if_neg e1, List.getElem?_append_right (by simp; omega)]
        simp only [List.length_map, List.length_range]
        by_cases e2 : i = n
        · rw [if_pos e2, e2, Nat.sub_self]; rfl
        · rw [if_neg e2, show i - n = 1 by omega]; rfl
    rw [← h6, List.getElem?_take] at this
    split at this
    · exact this
    · cases this

set_option maxRecDepth 100000 in
set_option maxHeartbeats 4000000 in
theorem spoil_any (w : World) (l : List (Int × List Int)) (b r s : Value) (dv : Nat → Value) (chosen pad pitch volume time : Int) (hb : BanksIn w b l dv) (hrs : (∃ a n c, r = .slice a n c) ∧ ∃ a n c, s = .slice a n c) (w0 : World) (B : Nat) (hH : Handed2 w0 B w l.length dv r s) (hlen : l.length ≤ 100) :
    Calls Try.prog 54 #[.agg #[b, r, s, .int .u8 chosen, .int .u8 pad, .int .u16 pitch, .int .u8 volume, .int .u16 time]] w fun e w' => e = .returned (.bool true) ∧ Upd w w' (fun i => w0.heap.size ≤ i ∧ i < B) := by
  obtain ⟨A, cap, rfl, hrow⟩ := hb.row
  obtain ⟨gs, ns, hLs, hnew⟩ := hH
  have hsl : ∀ i, i < l.length → ∃ a n c, dv i = .slice a n c := fun i hi => by obtain ⟨a, c, e, _⟩ := hb.bytes i hi; exact ⟨_, _, _, e⟩
  obtain ⟨⟨ra, rn, rc, rfl⟩, ⟨sa, sn, sc, rfl⟩⟩ := hrs
  obtain ⟨V, hV⟩ : ∃ V : Array Value, V = #[.slice A l.length cap, .slice ra rn rc, .slice sa sn sc, .int .u8 chosen, .int .u8 pad, .int .u16 pitch, .int .u8 volume, .int .u16 time] := ⟨_, rfl⟩
  obtain ⟨i1, hj, hy0, hy1, hy2⟩ := info_parts infoSl
  have START := Lib.hid (SpRel.start w V dv)
  have HR := Lib.hid hrow
  have HS := Lib.hid hsl
  have HV := Lib.hid hV
  have HL := Lib.hid hLs
  have HN := Lib.hid hnew
  have c1 : (w.alloc (.cells #[.slice A l.length cap, .slice ra rn rc, .slice sa sn sc, .int .u8 chosen, .int .u8 pad, .int .u16 pitch, .int .u8 volume, .int .u16 time] 49)).cell? ⟨w.heap.size, 0, none⟩ = some (.slice A l.length cap) := by rw [cell_of (heap_alloc_at w _)]; rfl
  clear hrow hsl hV hLs hnew hb
  go_enter Try.func54, Try.ntmps54
  go_wp2_with (fail)
  go_loopw [3, 9] (fun v i wr => ∃ k : Nat, k ≤ l.length ∧ i = .int .i64 k ∧ SpRel w wr V k v dv) (fun _ i _ => l.length - (intOf i).toNat)
  case atStart => exact ⟨0, Nat.zero_le _, rfl, HV.out ▸ START.out⟩
  case round =>
    obtain ⟨k, hk, rfl, hrel⟩ := hrel
    by_cases hlt : k < l.length
    · obtain ⟨ab, ao, rfl, hcc⟩ := HR.out (by omega)
      obtain ⟨da, dn, dc, hd⟩ := HS.out k hlt
      have d0 : wr.cell? ⟨ab, ao + k * 2, none⟩ = some (.int .i64 (l.getD k (0, [])).1) := cell_keep hrel.below (hcc k hlt).1 (World.block_lt_of_cell? w _ (hcc k hlt).1)
      have d1 : wr.cell? ⟨ab, ao + k * 2 + 1, none⟩ = some (.slice da dn dc) := hd ▸ cell_keep hrel.below (hcc k hlt).2 (World.block_lt_of_cell? w _ (hcc k hlt).2)
      obtain ⟨nm, hnm⟩ : ∃ x, x = (l.getD k (0, [])).1 := ⟨_, rfl⟩
      rw [← hnm] at d0
      have HR1 : Hid (((wr.alloc (.cells #[.int .i64 nm, .slice da dn dc] 37)).alloc (.cells #[.slice da dn dc] 35)).ownsRow (w.heap.size + 1) 35 1 u3 k ((List.range k).map dv)) := (hrel.row.alloc _).alloc _
      have hsz : w.heap.size + 1 ≤ wr.heap.size := heap_lt hrel.box
      have Hrel := Lib.hid hrel
      have Hd := Lib.hid hd
      clear hrel hd hcc hnm
      go_wp2_with (at_builtin; refine wpList_append_own_at _ rfl (.tmp 13) (.tmp 16) 102 rfl (w.heap.size + 1) 35 i1 _ 1 24 Try.underlying102 hj hy0 hy1 hy2 rfl (by decide) u3 k _ rfl HR1.out ⟨wr.heap.size + 1, 0, none⟩ 1 1 [.slice da dn dc] rfl rfl (by have := cell_one_new (wr.alloc (.cells #[.int .i64 nm, .slice da dn dc] 37)) (.slice da dn dc) 35; simpa using this) (by simp [Value.oneCell']) (by simp only [maxLen]; omega) (by omega) (by simp; omega) ?_; intro v' w' ho' hgr' hnil' hat'; rw [← Hd.out] at ho'; have Nx := Lib.hid (Hrel.out.step ho' hgr'); clear ho' hgr' hnil' hat')
      go_roundw
      case rel => exact ⟨k + 1, hlt, by go_num, Nx.out⟩
      case measure => simp [intOf]; omega
    · have hke : k = l.length := by omega
      subst hke
      have hbx : wr.heap[w.heap.size]? = some (.cells #[.slice A l.length cap, .slice ra rn rc, .slice sa sn sc, .int .u8 chosen, .int .u8 pad, .int .u16 pitch, .int .u8 volume, .int .u16 time] 49 (0, 0)) := HV.out ▸ hrel.box
      have d1 : wr.cell? ⟨w.heap.size, 1, none⟩ = some (.slice ra rn rc) := by rw [cell_of hbx]; rfl
      have d2 : wr.cell? ⟨w.heap.size, 2, none⟩ = some (.slice sa sn sc) := by rw [cell_of hbx]; rfl
      have HR1 : Hid ((wr.alloc (.cells #[.slice ra rn rc, .slice sa sn sc] 35)).ownsRow (w.heap.size + 1) 35 1 u3 l.length ((List.range l.length).map dv)) := hrel.row.alloc _
      have HN2 : Hid (∀ j u, ([.slice ra rn rc, .slice sa sn sc] : List Value)[j]? = some u → (wr.alloc (.cells #[.slice ra rn rc, .slice sa sn sc] 35)).cell? ((⟨wr.heap.size, 0, none⟩ : Addr).add j) = some u) := by
        intro j u hj'
        rw [add_plain', Nat.zero_add, cell_of (heap_alloc_at wr _)]
        simpa using hj'
      have hsz : w.heap.size + 1 ≤ wr.heap.size := heap_lt hrel.box
      have Hrel := Lib.hid hrel
      clear hrel hbx
      go_wp2_with (first
        | (at_builtin; refine wpList_append_own_at _ rfl (.tmp 19) (.tmp 24) 102 rfl (w.heap.size + 1) 35 i1 _ 1 24 Try.underlying102 hj hy0 hy1 hy2 rfl (by decide) u3 l.length _ rfl HR1.out ⟨wr.heap.size, 0, none⟩ 2 2 [.slice ra rn rc, .slice sa sn sc] rfl rfl HN2.out (by simp [Value.oneCell']) (by simp only [maxLen]; omega) (by omega) (by simp; omega) ?_; intro v' w' ho' hgr' hnil' hat'; obtain ⟨q, cq, rfl, QQ⟩ := Hrel.out.close ho' hgr'; clear ho' hgr' hnil' hat')
        | (go_at_call 53; refine (apart_any w' q 0 (l.length + 2) cq _ gs ns QQ.out.2.2.2 QQ.out.2.2.1 (HL.out.below QQ.out.1) (fun i hi e => by obtain ⟨c, cs, t, _, h2, _⟩ := HL.out.own i hi; have := heap_lt h2; have := QQ.out.2.1; omega) (by omega) (by omega)).mono ?_; rintro e w5 ⟨rfl, hu⟩; have HU := Lib.hid hu; clear hu))
      go_ret
      exact ⟨rfl, (Upd.of_below QQ.out.1 _).trans HU.out (fun i _ ⟨j, hj, e⟩ => e ▸ HN.out j hj)⟩
end Go.Proofs.Ytabeljpnmmfpgaa
