/-
  Words: the document's words as flow's, with marks behind each list.
  has: does a list name a cell?
  The reference's has, all, and the law's sameCells.
-/
import Derived.Test.YtabeljpnmmfpgaaDoorFlConvB
import Derived.BigQuiet
namespace Go.Proofs.YtabeljpnmmfpgaaDoor
open Go.RowKit Go.MapKept Go.Maps Go.Sort
set_option linter.unusedVariables false
set_option linter.unusedSimpArgs false

/-- The instructions of a word, copied one by one. -/
structure IR (wc w6 : World) (X : Nat) (a : Int) (vi vs : Value) (l : List FI) : Prop where
  upd : Upd wc w6 (fun k => k = X)
  box : w6.heap[X]? = some (.cells #[.int .u16 a, vi, vs] 53 (0, 0))
  row : RowI w6 wc.heap.size vi l
/-- A word's instructions with a mark behind. -/
structure IE (w6 wx wc : World) (X g cap : Nat) (a : Int) (m : Nat) (vs : Value) (l : List FI) : Prop where
  box : wx.heap[X]? = some (.cells #[.int .u16 a, .slice (some ⟨g, 0, none⟩) m cap, vs] 53 (0, 0))
  upd : Upd w6 wx (fun k => k = X ∨ wc.heap.size ≤ k)
  row : wx.ownsRow wc.heap.size 60 5 (.slice (some ⟨g, 0, none⟩) (m + 1) cap) (m + 1) (l.flatMap FI.cells ++ [.int .u16 0, .int .i64 777, .int .u16 0, .int .u16 0, .int .u16 0])
theorem IE.mk' {w6 w4 wc : World} {X g cap : Nat} {a : Int} {m : Nat} {v vs : Value} {l : List FI} (hX : X < wc.heap.size)
    (hb : w4.heap[X]? = some (.cells #[.int .u16 a, v, vs] 53 (0, 0))) (hu : Upd w6 w4 (fun k => wc.heap.size ≤ k))
    (hr : w4.ownsRow wc.heap.size 60 5 (.slice (some ⟨g, 0, none⟩) (m + 1) cap) (m + 1) (l.flatMap FI.cells ++ [.int .u16 0, .int .i64 777, .int .u16 0, .int .u16 0, .int .u16 0])) :
    IE w6 (w4.setCell ⟨X, 1, none⟩ (.slice (some ⟨g, 0, none⟩) m cap)) wc X g cap a m vs l := by
  have q1 := ownsRow_some hr
  refine ⟨heap_set_cell hb 1 _, (hu.mono (fun i _ h => .inr h)).setCell (fun _ => .inl rfl) _, ownsRow_keep hr (fun k hk => ?_)⟩
  have : g = k := by simpa [Value.ownBlock] using hk
  subst this
  exact heap_set_far (by omega)
/-- What Words answers. -/
def ConvPost (w : World) (ws : List FW) (e : Ending) (w' : World) : Prop := ∃ g cap ts, e = .returned (.slice (some ⟨g, 0, none⟩) ws.length cap) ∧ ts.length = ws.length ∧ Below w.heap.size w w' ∧
  w'.ownsRow w.heap.size 53 3 (.slice (some ⟨g, 0, none⟩) (ws.length + 1) cap) (ws.length + 1) (ts.flatMap WT.cells ++ [.int .u16 7777, .slice none 0 0, .slice none 0 0]) ∧
  (∀ (i : Nat) (h1 : i < ts.length) (h2 : i < ws.length), CvW w' w.heap.size ts[i] ws[i]) ∧ (g :: blks ts).Nodup

theorem newsT {W : World} {g : Nat} {t : TypeId} (h : W.heap[g]? = some (.cells #[.int .u16 7777] t (0, 0))) : ∀ ad : Addr, some (⟨g, 0, none⟩ : Addr) = some ad → ∀ j u, ([.int .u16 7777] : List Value)[j]? = some u → W.cell? (ad.add j) = some u := by
  rintro ad e j u hj
  cases e
  exact news1 _ h j u hj
/-- A word begun: its address, its calls with a mark behind. -/
structure C5 (wr wx : World) (X g cap : Nat) (a : Int) (n : Nat) (l : List Value) : Prop where
  below : Below wr.heap.size wr wx
  base : wr.heap.size ≤ X
  ne : X ≠ g
  box : wx.heap[X]? = some (.cells #[.int .u16 a, .slice none 0 0, .slice (some ⟨g, 0, none⟩) n cap] 53 (0, 0))
  row : wx.ownsRow wr.heap.size 23 1 (.slice (some ⟨g, 0, none⟩) (n + 1) cap) (n + 1) (l ++ [.int .u16 7777])
theorem C5.fresh {wr w2 : World} {g cap : Nat} {a : Int} {n : Nat} {l : List Value} (hb : Below wr.heap.size wr w2) (hr : w2.ownsRow wr.heap.size 23 1 (.slice (some ⟨g, 0, none⟩) (n + 1) cap) (n + 1) (l ++ [.int .u16 7777])) :
    C5 wr (w2.alloc (.cells #[.int .u16 a, .slice none 0 0, .slice (some ⟨g, 0, none⟩) n cap] 53)) w2.heap.size g cap a n l :=
  ⟨b_alloc hb _, hb.size, by have := (ownsRow_some hr).2.1; omega, heap_alloc_at _ _, hr.alloc _⟩
theorem C5.stored {wr w2 : World} {X g cap : Nat} {a : Int} {n : Nat} {l : List Value} (hb : Below wr.heap.size wr w2) (hX : wr.heap.size ≤ X) (hz : w2.heap[X]? = some (.cells #[.int .u16 0, .slice none 0 0, .slice none 0 0] 53 (0, 0)))
    (hr : w2.ownsRow wr.heap.size 23 1 (.slice (some ⟨g, 0, none⟩) (n + 1) cap) (n + 1) (l ++ [.int .u16 7777])) :
    C5 wr (World.setCell (World.setCell (World.setCell w2 ⟨X, 0, none⟩ (.int .u16 a)) ⟨X, 1, none⟩ (.slice none 0 0)) ⟨X, 2, none⟩ (.slice (some ⟨g, 0, none⟩) n cap)) X g cap a n l := by
  have hne : X ≠ g := by
    rintro rfl
    rcases hr.2 with ⟨e, _⟩ | ⟨g', cap', cur, e, _, hh, _⟩
    · cases e
    · cases e
      rw [hz] at hh
      cases hh
  refine ⟨?_, hX, hne, heap_set_cell (heap_set_cell (heap_set_cell hz 0 _) 1 _) 2 _, ownsRow_keep hr (fun k hk => ?_)⟩
  · have s1 := hb.size
    exact ((hb.setCell (p := ⟨X, 0, none⟩) hX _).setCell (p := ⟨X, 1, none⟩) hX _).setCell (p := ⟨X, 2, none⟩) hX _
  · have : g = k := by simpa [Value.ownBlock] using hk
    subst this
    rw [heap_set_far (by omega), heap_set_far (by omega), heap_set_far (by omega)]

set_option maxRecDepth 100000 in
set_option maxHeartbeats 4000000 in
theorem conv_any (w : World) (A : Option Addr) (c : Nat) (ws : List FW) (h : FWin w A ws) (hl : ws.length ≤ 60) :
    Calls Tryd.prog 27 #[.slice A ws.length c] w fun e w' => ConvPost w ws e w' := by
  obtain ⟨i0, hi0, hz0, hz1, hz2⟩ := info_parts infoU16
  obtain ⟨i1, hi1, hy0, hy1, hy2⟩ := info_parts infoInstr
  obtain ⟨i2, hi2, hx0, hx1, hx2⟩ := info_parts infoW'
  have HF := Lib.hid h
  have start : Hid (CvRel w w (.slice none 0 0) [] ws) := ⟨Below.refl _ _, World.ownsRow_nil _ _ _ _, by simp, fun i h1 _ => by simp at h1, by simp [Value.ownBlock, blks]⟩
  obtain ⟨N, hN⟩ : ∃ N, N = ws.length := ⟨_, rfl⟩
  rw [← hN]
  rw [← hN] at hl
  have HN := Lib.hid hN
  clear h hN
  go_enter Tryd.func27, Tryd.ntmps27
  go_wp2_with (fail)
  go_loopw [3, 4] (fun v i wr => ∃ ts, ts.length ≤ N ∧ i = .int .i64 ts.length ∧ Hid (CvRel w wr v ts ws)) (fun _ i _ => N - (intOf i).toNat)
  case atStart => exact ⟨[], by simp, rfl, start⟩
  case round =>
    obtain ⟨ts, hk, rfl, hrel⟩ := hrel
    obtain ⟨k, hk'⟩ : ∃ k, k = ts.length := ⟨_, rfl⟩
    have HK := Lib.hid hk'
    rw [← hk'] at hk ⊢
    clear hk'
    by_cases hlt : k < N
    · obtain ⟨b, off, ia, ic, ca, cc, rfl, hw0⟩ := HF.out k (by rw [← HN.out]; exact hlt)
      have hw := hw0.below hrel.out.below
      obtain ⟨x, hx⟩ : ∃ x, x = ws[k]'(by rw [← HN.out]; exact hlt) := ⟨_, rfl⟩
      rw [← hx] at hw
      have HX := Lib.hid hx
      have HW := Lib.hid hw
      clear hx hw0 hw
      obtain ⟨a, ha⟩ : ∃ a, a = x.at_ := ⟨_, rfl⟩
      obtain ⟨n, hn⟩ : ∃ n, n = x.calls.length := ⟨_, rfl⟩
      obtain ⟨m, hm⟩ : ∃ m, m = x.instrs.length := ⟨_, rfl⟩
      have c0 := HW.out.c0
      have c1 := HW.out.c1
      have c2 := HW.out.c2
      have hn2 := HW.out.small
      have hm2 := HW.out.ins.len
      rw [← ha] at c0
      rw [← hn] at c2 hn2
      rw [← hm] at c1 hm2
      have HA := Lib.hid ha
      have HNN := Lib.hid hn
      have HM := Lib.hid hm
      clear ha hn hm
      have hb0 : b < wr.heap.size := World.block_lt_of_cell? _ _ c0
      have hk0 : (0 : Int) ≤ (k : Int) := Int.natCast_nonneg _
      have hk1 : (k : Int) < (N : Int) := by omega
      have OWN : Hid (∀ (W : World) (g0 : Nat), wr.heap.size ≤ g0 → W.heap[g0]? = some (.cells #[] 23 (0, 0)) → W.ownsRow wr.heap.size 23 1 (.slice (some ⟨g0, 0, none⟩) 0 0) 0 []) := fun W g0 hg hh => ⟨rfl, .inr ⟨g0, 0, #[], rfl, hg, hh, Nat.le_refl _, by simp [maxLen], rfl, rfl⟩⟩
      have NIL : Hid (ca = none → cc = 0 ∧ n = 0) := fun e => ⟨HW.out.nil e, by
        rw [HNN.out]
        by_cases h0 : 0 < x.calls.length
        · obtain ⟨_, _, e2, _⟩ := HW.out.calls.at_ 0 h0
          rw [e] at e2; cases e2
        · omega⟩
      have LEN := Lib.hid (show (x.calls.map (Value.int .u16)).length = n * 1 by rw [HNN.out]; simp)
      have ONE : Hid (∀ u ∈ x.calls.map (Value.int .u16), u.oneCell' = true) := by
        intro u hu
        obtain ⟨y, _, rfl⟩ := List.mem_map.1 hu
        rfl
      have NEWS : Hid (∀ W, Below wr.heap.size wr W → ∀ ad, ca = some ad → ∀ j u, (x.calls.map (Value.int .u16))[j]? = some u → W.cell? (ad.add j) = some u) := by
        intro W hW ad e j u hj
        rw [List.getElem?_map] at hj
        obtain ⟨y, hy, rfl⟩ := Option.map_eq_some_iff.1 hj
        obtain ⟨hj1, rfl⟩ := List.getElem?_eq_some_iff.1 hy
        obtain ⟨b2, o2, e2, hc⟩ := HW.out.calls.at_ j hj1
        rw [e] at e2
        cases e2
        rw [show (⟨b2, o2, none⟩ : Addr).add j = ⟨b2, o2 + j, none⟩ by unfold Addr.add; split <;> simp_all]
        exact keep_cell hc hW
      have A1 : Hid (∀ (W w1 : World) (g0 g1 cap1 : Nat), Below wr.heap.size wr W → wr.heap.size ≤ g0 → w1.ownsRow wr.heap.size 23 1 (.slice (some ⟨g1, 0, none⟩) n cap1) n (x.calls.map (Value.int .u16)) → Upd W w1 (fun k => k = g0) → (g1 = g0 ∨ g1 = W.heap.size) →
          w1.cell? ⟨b, off + k * 3, none⟩ = some (.int .u16 a) ∧ w1.cell? ⟨b, off + k * 3 + 2, none⟩ = some (.slice ca n cc) ∧ Hid (Below wr.heap.size wr w1) ∧ Hid (w1.ownsRow wr.heap.size 23 1 (.slice (some ⟨g1, 0, none⟩) n cap1) n (x.calls.map (Value.int .u16))) ∧ Hid (wr.heap.size ≤ g1 ∧ g1 < w1.heap.size) ∧ Hid (Upd W w1 (fun k => k = g0)) ∧ Hid (g1 = g0 ∨ g1 = W.heap.size)) := by
        intro W w1 g0 g1 cap1 hW hg ho hu hat
        obtain ⟨q1, q2, q3⟩ := ownsRow_some ho
        have hb1 : Below wr.heap.size wr w1 := below_app hW hW.size hg hu
        exact ⟨keep_cell c0 hb1, keep_cell c2 hb1, hb1, ho, ⟨q1, q2⟩, hu, hat⟩
      have A2 : Hid (∀ (W w2 : World) (g1 g2 cap2 : Nat), Below wr.heap.size wr W → wr.heap.size ≤ g1 → w2.ownsRow wr.heap.size 23 1 (.slice (some ⟨g2, 0, none⟩) (n + 1) cap2) (n + 1) (x.calls.map (Value.int .u16) ++ [.int .u16 7777]) → Upd W w2 (fun k => k = g1) →
          w2.cell? ⟨b, off + k * 3, none⟩ = some (.int .u16 a) ∧ w2.cell? ⟨b, off + k * 3 + 2, none⟩ = some (.slice ca n cc) ∧ n ≤ cap2 ∧ Hid (Below wr.heap.size wr w2) ∧ Hid (w2.ownsRow wr.heap.size 23 1 (.slice (some ⟨g2, 0, none⟩) (n + 1) cap2) (n + 1) (x.calls.map (Value.int .u16) ++ [.int .u16 7777])) ∧ Hid (Upd W w2 (fun k => k = g1))) := by
        intro W w2 g1 g2 cap2 hW hg ho hu
        obtain ⟨q1, q2, q3⟩ := ownsRow_some ho
        have hb2 : Below wr.heap.size wr w2 := below_app hW hW.size hg hu
        exact ⟨keep_cell c0 hb2, keep_cell c2 hb2, by omega, hb2, ho, hu⟩
      obtain ⟨L, hL⟩ : ∃ L : List Value, L = x.calls.map (Value.int .u16) := ⟨_, rfl⟩
      rw [← hL] at LEN ONE NEWS A1 A2
      have HL := Lib.hid hL
      clear hL
      have bwr := Lib.hid ((Below.refl wr.heap.size wr).drew)
      go_wp2_with (fail)
      go_cut [5] (fun p wx => ∃ X g2 cap2, p = .pointer (some ⟨X, 0, none⟩) ∧ n ≤ cap2 ∧ Hid (C5 wr wx X g2 cap2 a n L))
      case first =>
        go_region_held3 (fun w' => w'.cell? ⟨b, off + k * 3, none⟩ = some (.int .u16 a) ∧ w'.cell? ⟨b, off + k * 3 + 2, none⟩ = some (.slice ca n cc))
          (first | (refine ⟨keep_cell c0 ?_, keep_cell c2 ?_⟩ <;> (first | exact (b_alloc (b_alloc (b_alloc (Below.refl _ _) _) _) _).drew | exact (b_alloc (b_alloc (Below.refl _ _) _) _).drew)) | go_keep | (refine ⟨?_, ?_⟩ <;> (rw [World.cell?_setCell_other _ _ _ _ (by first | (simp; done) | (simp; omega)), World.cell?_setCell_other _ _ _ _ (by first | (simp; done) | (simp; omega)), World.cell?_setCell_other _ _ _ _ (by first | (simp; done) | (simp; omega))]; assumption)) | fail)
          (first
          | (refine step_append_own rfl _ _ 51 rfl wr.heap.size 23 i0 _ 1 2 Tryd.underlying51 hi0 hz0 hz1 hz2 rfl (by decide) _ 0 0 [] rfl (OWN.out _ _ (by omega) (by first | (refine alloc_at _ ?_; (first | (simp; done) | (simp; omega))) | (refine heap_alloc_old (alloc_at _ ?_); (first | (simp; done) | (simp; omega))) | (refine heap_alloc_old (heap_alloc_old (alloc_at _ ?_)); (first | (simp; done) | (simp; omega))))) ca n cc L rfl NIL.out LEN.out (NEWS.out _ (by first | exact b_alloc bwr.out _ | exact b_alloc (b_alloc bwr.out _) _ | exact b_alloc (b_alloc (b_alloc bwr.out _) _) _)) ONE.out (by simp only [maxLen]; omega) (by omega) (by first | (simp; done) | (simp; omega)) n (by omega) ?_
             intro g1 cap1 w1 ho hu hat
             obtain ⟨k0, k1, B1, R1, G1, U1, H1⟩ := A1.out _ _ _ _ _ (by first | exact b_alloc bwr.out _ | exact b_alloc (b_alloc bwr.out _) _ | exact b_alloc (b_alloc (b_alloc bwr.out _) _) _) (by omega) ho hu hat
             clear ho hu hat
             have hs1 := B1.out.size
             first
             | (refine (have Z1 : Hid (w1.heap[wr.heap.size]? = some (.cells #[.int .u16 0, .slice none 0 0, .slice none 0 0] 53 (0, 0))) := ?_; ?_); (· (refine (U1.out.block _ ?_ ?_).trans ?_; (· (first | (simp; done) | (simp; omega))); (· (intro hh; have hh2 : _ = _ := hh; omega)); (· (first | (refine alloc_at _ ?_; first | (simp; done) | (simp; omega)) | (refine heap_alloc_old (alloc_at _ ?_); first | (simp; done) | (simp; omega)) | (refine heap_alloc_old (heap_alloc_old (alloc_at _ ?_)); simp; done))))))
             | (refine (have Z1 : Hid (w1.heap[wr.heap.size + 1]? = some (.cells #[.int .u16 0, .slice none 0 0, .slice none 0 0] 53 (0, 0))) := ?_; ?_); (· (refine (U1.out.block _ ?_ ?_).trans ?_; (· (first | (simp; done) | (simp; omega))); (· (intro hh; have hh2 : _ = _ := hh; omega)); (· (first | (refine alloc_at _ ?_; first | (simp; done) | (simp; omega)) | (refine heap_alloc_old (alloc_at _ ?_); first | (simp; done) | (simp; omega)) | (refine heap_alloc_old (heap_alloc_old (alloc_at _ ?_)); simp; done))))))
             | (refine (have Z1 : Hid (w1.heap[wr.heap.size + 2]? = some (.cells #[.int .u16 0, .slice none 0 0, .slice none 0 0] 53 (0, 0))) := ?_; ?_); (· (refine (U1.out.block _ ?_ ?_).trans ?_; (· (first | (simp; done) | (simp; omega))); (· (intro hh; have hh2 : _ = _ := hh; omega)); (· (first | (refine alloc_at _ ?_; first | (simp; done) | (simp; omega)) | (refine heap_alloc_old (alloc_at _ ?_); first | (simp; done) | (simp; omega)) | (refine heap_alloc_old (heap_alloc_old (alloc_at _ ?_)); simp; done))))))
             | have Z1 : Hid True := Lib.hid trivial)
          | (refine step_append_own rfl _ _ 51 rfl wr.heap.size 23 i0 _ 1 2 Tryd.underlying51 hi0 hz0 hz1 hz2 rfl (by decide) g1 n cap1 L rfl (by first | exact R1.out | exact R1.out.alloc _ | exact (R1.out.alloc _).alloc _) (some ⟨_, 0, none⟩) 1 1 [.int .u16 7777] rfl (by intro e; cases e) rfl
               (newsT (by first
                 | (refine alloc_at _ ?_; (first | (simp; done) | (simp; omega)))
                 | (refine heap_alloc_old (alloc_at _ ?_); (first | (simp; done) | (simp; omega)))
                 | (refine (U1.out.block _ ?_ ?_).trans ?_; (· (first | (simp; done) | (simp; omega))); (· (intro hh; have hh2 : _ = _ := hh; omega)); (· (refine alloc_at _ ?_; (first | (simp; done) | (simp; omega)))))
                 | (refine (U1.out.block _ ?_ ?_).trans ?_; (· (first | (simp; done) | (simp; omega))); (· (intro hh; have hh2 : _ = _ := hh; omega)); (· (refine heap_alloc_old (alloc_at _ ?_); (first | (simp; done) | (simp; omega)))))
                 | (refine (U1.out.block _ ?_ ?_).trans ?_; (· (first | (simp; done) | (simp; omega))); (· (intro hh; have hh2 : _ = _ := hh; omega)); (· (refine heap_alloc_old (heap_alloc_old (alloc_at _ ?_)); (first | (simp; done) | (simp; omega)))))
                 | (refine heap_alloc_old ((U1.out.block _ ?_ ?_).trans ?_); (· (first | (simp; done) | (simp; omega))); (· (intro hh; have hh2 : _ = _ := hh; omega)); (· (refine alloc_at _ ?_; (first | (simp; done) | (simp; omega)))))
                 | (refine heap_alloc_old ((U1.out.block _ ?_ ?_).trans ?_); (· (first | (simp; done) | (simp; omega))); (· (intro hh; have hh2 : _ = _ := hh; omega)); (· (refine heap_alloc_old (alloc_at _ ?_); (first | (simp; done) | (simp; omega)))))
                 | (refine heap_alloc_old ((U1.out.block _ ?_ ?_).trans ?_); (· (first | (simp; done) | (simp; omega))); (· (intro hh; have hh2 : _ = _ := hh; omega)); (· (refine heap_alloc_old (heap_alloc_old (alloc_at _ ?_)); (first | (simp; done) | (simp; omega)))))))
               (by simp [Value.oneCell']) (by simp only [maxLen]; omega) (by omega) (by have h1 := B1.out.size; first | omega | (simp; omega)) (n + 1) rfl ?_
             intro g2 cap2 w2 ho hu hat
             obtain ⟨k2, k3, hc2, B2, R2, U2⟩ := A2.out _ _ _ _ _ (by first | exact B1.out | exact b_alloc B1.out _ | exact b_alloc (b_alloc B1.out _) _) G1.out.1 ho hu
             clear ho hu hat k0 k1
             first
             | (refine (have Z2 : Hid (w2.heap[wr.heap.size]? = some (.cells #[.int .u16 0, .slice none 0 0, .slice none 0 0] 53 (0, 0))) := ?_; ?_); (· (refine (U2.out.block _ ?_ ?_).trans ?_; (· (have h1 := B1.out.size; have h2 := heap_lt Z1.out; first | exact h2 | (simp; omega))); (· (intro hh; have hh2 : _ = _ := hh; rcases H1.out with h2 | h2 <;> (try simp at h2) <;> omega)); (· (first | exact Z1.out | exact heap_alloc_old Z1.out)))); obtain ⟨⟨z0, z1, z2⟩, y0, y1, y2⟩ := cells3 Z2.out)
             | (refine (have Z2 : Hid (w2.heap[wr.heap.size + 1]? = some (.cells #[.int .u16 0, .slice none 0 0, .slice none 0 0] 53 (0, 0))) := ?_; ?_); (· (refine (U2.out.block _ ?_ ?_).trans ?_; (· (have h1 := B1.out.size; have h2 := heap_lt Z1.out; first | exact h2 | (simp; omega))); (· (intro hh; have hh2 : _ = _ := hh; rcases H1.out with h2 | h2 <;> (try simp at h2) <;> omega)); (· (first | exact Z1.out | exact heap_alloc_old Z1.out)))); obtain ⟨⟨z0, z1, z2⟩, y0, y1, y2⟩ := cells3 Z2.out)
             | (refine (have Z2 : Hid (w2.heap[wr.heap.size + 2]? = some (.cells #[.int .u16 0, .slice none 0 0, .slice none 0 0] 53 (0, 0))) := ?_; ?_); (· (refine (U2.out.block _ ?_ ?_).trans ?_; (· (have h1 := B1.out.size; have h2 := heap_lt Z1.out; first | exact h2 | (simp; omega))); (· (intro hh; have hh2 : _ = _ := hh; rcases H1.out with h2 | h2 <;> (try simp at h2) <;> omega)); (· (first | exact Z1.out | exact heap_alloc_old Z1.out)))); obtain ⟨⟨z0, z1, z2⟩, y0, y1, y2⟩ := cells3 Z2.out)
             | (refine (have Z2 : Hid (w2.heap[w1.heap.size]? = some (.cells #[.int .u16 0, .slice none 0 0, .slice none 0 0] 53 (0, 0))) := ?_; ?_); (· (refine (U2.out.block _ ?_ ?_).trans ?_; (· (first | (simp; done) | (simp; omega))); (· (intro hh; have hh2 : _ = _ := hh; have h1 := G1.out.2; omega)); (· (first | (refine alloc_at _ ?_; first | (simp; done) | (simp; omega)) | (refine heap_alloc_old (alloc_at _ ?_); first | (simp; done) | (simp; omega)) | (refine heap_alloc_old (heap_alloc_old (alloc_at _ ?_)); simp; done))))); obtain ⟨⟨z0, z1, z2⟩, y0, y1, y2⟩ := cells3 Z2.out)
             | (refine (have Z2 : Hid (w2.heap[w1.heap.size + 1]? = some (.cells #[.int .u16 0, .slice none 0 0, .slice none 0 0] 53 (0, 0))) := ?_; ?_); (· (refine (U2.out.block _ ?_ ?_).trans ?_; (· (first | (simp; done) | (simp; omega))); (· (intro hh; have hh2 : _ = _ := hh; have h1 := G1.out.2; omega)); (· (first | (refine alloc_at _ ?_; first | (simp; done) | (simp; omega)) | (refine heap_alloc_old (alloc_at _ ?_); first | (simp; done) | (simp; omega)) | (refine heap_alloc_old (heap_alloc_old (alloc_at _ ?_)); simp; done))))); obtain ⟨⟨z0, z1, z2⟩, y0, y1, y2⟩ := cells3 Z2.out)
             | have Z2 : Hid True := Lib.hid trivial))
        all_goals
          clear OWN NIL LEN ONE NEWS A1 A2
          go_wp2_with (fail)
          go_meet
          first
            | exact ⟨_, _, _, rfl, hc2, C5.fresh B2.out R2.out⟩
            | exact ⟨_, _, _, rfl, hc2, C5.stored B2.out (by omega) Z2.out R2.out⟩
      case rest =>
        obtain ⟨X, g2, cap2, rfl, hc2, hC⟩ := hcut
        clear OWN NIL ONE NEWS A1 A2 bwr
        obtain ⟨w0, hw0⟩ : ∃ w0 : World, w0 = wr := ⟨_, rfl⟩
        subst hw0
        obtain ⟨wq, hwq⟩ : ∃ wq : World, wq = wc := ⟨_, rfl⟩
        subst hwq
        have hXl := hC.out.base
        have hXb := hC.out.box
        have hXs := heap_lt hXb
        have IR0 : Hid (IR wq wq X a (.slice none 0 0) (.slice (some ⟨g2, 0, none⟩) n cap2) []) := ⟨Upd.refl _ _, hXb, World.ownsRow_nil _ _ _ _⟩
        obtain ⟨Xs, hXs'⟩ : ∃ Xs : List FI, Xs = x.instrs := ⟨_, rfl⟩
        have HXS := Lib.hid hXs'
        have MX : Hid (m = Xs.length) := by rw [HXS.out]; exact HM.out
        clear hXs' hXb c0 c1 c2
        go_wp2_with (fail)
        go_loopw [6] (fun i w6 => ∃ (j : Nat) (vi : Value), i = .int .i64 j ∧ j ≤ m ∧ Hid (IR wq w6 X a vi (.slice (some ⟨g2, 0, none⟩) n cap2) (Xs.take j))) (fun i _ => m - (intOf i).toNat)
        case atStart => exact ⟨0, _, rfl, Nat.zero_le _, IR0⟩
        case round =>
          obtain ⟨j, vi, rfl, hj, hI⟩ := hrel
          have hb6 : Below w0.heap.size w0 wr := hC.out.below.trans (hI.out.upd.below (by have := hC.out.below.size; omega) (fun i hi => by omega))
          have HW6 := Lib.hid (HW.out.below hb6)
          have hs6 := hI.out.upd.size
          have c1 := HW6.out.c1
          rw [← HM.out] at c1
          obtain ⟨⟨x0, x1, x2⟩, y0, y1, y2⟩ := cells3 hI.out.box
          obtain ⟨Ai, ci, rfl⟩ := hI.out.row.slice
          by_cases hjm : j < m
          · have hjl : j < x.instrs.length := by rw [← HM.out]; exact hjm
            obtain ⟨bi, oi, rfl, d0, d1, d2, d3, d4⟩ := HW6.out.ins.at_ j hjl
            have e0 : (⟨bi, oi, none⟩ : Addr).block < wr.heap.size := World.block_lt_of_cell? _ ⟨bi, oi + j * 5, none⟩ d0
            obtain ⟨q, hq⟩ : ∃ q, q = x.instrs[j] := ⟨_, rfl⟩
            rw [← hq] at d0 d1 d2 d3 d4
            have HQ := Lib.hid hq
            clear hq
            have hj0 : (0 : Int) ≤ (j : Int) := Int.natCast_nonneg _
            have hj1 : (j : Int) < (m : Int) := by omega
            have TJ := Lib.hid (show (Xs.take j).length = j by
              have h1 := MX.out
              rw [List.length_take]; omega)
            have RO := Lib.hid (show wr.ownsRow wq.heap.size 60 5 (.slice Ai (Xs.take j).length ci) (Xs.take j).length ((Xs.take j).flatMap FI.cells) from hI.out.row)
            rw [TJ.out] at RO x1
            have OX : Hid (∀ k, (Value.slice Ai j ci).ownBlock = some k → k < wr.heap.size ∧ wq.heap.size ≤ k) := by
              have h1 := hI.out.row.own
              rw [TJ.out] at h1
              exact h1
            have BX : Hid (∀ (o o' : Obj) (w3 : World), ((wr.alloc o).alloc o').grownBy w3 (Value.slice Ai j ci).ownBlock → w3.heap[X]? = some (.cells #[.int .u16 a, .slice Ai j ci, .slice (some ⟨g2, 0, none⟩) n cap2] 53 (0, 0)) ∧ Hid (Upd wr w3 (fun i => wq.heap.size ≤ i))) := by
              intro o o' w3 hg
              have hu := Upd.of_grown hg
              have h2 := hI.out.box
              rw [TJ.out] at h2
              refine ⟨(hu.block X (by simp; omega) (fun e => by have := (OX.out X e.symm).2; omega)).trans (heap_alloc_old (heap_alloc_old h2)), ?_⟩
              exact (((Upd.refl wr _).alloc o).alloc o').trans hu (fun i hi e => (OX.out i e.symm).2)
            have hXl2 := heap_lt hI.out.box
            have xa : ∀ o, (wr.alloc o).cell? ⟨X, 1, none⟩ = some (.slice Ai j ci) := fun o => cell_alloc_old x1
            have HI := Lib.hid hI.out
            clear hI
            have xa := xa (.cells #[.int .u16 q.at_, .int .i64 q.op, .int .u16 q.operand, .int .u16 q.word, .int .u16 q.next] 91)
            go_wp2_with (first
              | (at_builtin; refine wpList_append_own_at _ rfl _ _ 50 rfl wq.heap.size 60 i1 _ 5 24 Tryd.underlying50 hi1 hy0 hy1 hy2 rfl (by decide) (.slice Ai j ci) j _ rfl ((RO.out.alloc _).alloc _) ⟨wr.heap.size + 1, 0, none⟩ 1 1 [.int .u16 q.at_, .int .i64 q.op, .int .u16 q.operand, .int .u16 q.word, .int .u16 q.next] rfl rfl ?hnews ?hone (by simp only [maxLen]; omega) (by omega) (by simp; omega) ?_; (case hnews => exact news5 _ (alloc_at _ (by simp))); (case hone => intro u hu; simp at hu; rcases hu with rfl | rfl | rfl | rfl | rfl <;> rfl); intro v' w3 ho hgr _ hat; obtain ⟨g3, cap3, rfl⟩ := ownsRow_succ ho; obtain ⟨bx, U3⟩ := BX.out _ _ _ hgr; have BX3 := Lib.hid bx; obtain ⟨⟨t0, t1, t2⟩, s0, s1, s2⟩ := cells3 bx; have R3 := Lib.hid ho; clear bx xa x0 x1 x2 y0 y1 y2 d0 d1 d2 d3 d4 c1 ho hgr hat))
            have fin : Hid (IR wq (w3.setCell ⟨X, 1, none⟩ (.slice (some ⟨g3, 0, none⟩) (j + 1) cap3)) X a (.slice (some ⟨g3, 0, none⟩) (j + 1) cap3) (.slice (some ⟨g2, 0, none⟩) n cap2) (Xs.take (j + 1))) := by
              have hjX : j < Xs.length := by have := MX.out; omega
              have e1 : Xs.take (j + 1) = Xs.take j ++ [q] := by
                rw [HQ.out, ← List.take_append_getElem hjX]
                congr 2
                simp only [HXS.out]
              have q1 := ownsRow_some R3.out
              refine ⟨(HI.out.upd.trans U3.out (fun i hi e => by omega)).setCell (fun _ => rfl) _, heap_set_cell BX3.out 1 _, ?_⟩
              have h1 := ownsRow_keep (W := w3.setCell ⟨X, 1, none⟩ (.slice (some ⟨g3, 0, none⟩) (j + 1) cap3)) R3.out (fun k hk => by
                have : g3 = k := by simpa [Value.ownBlock] using hk
                subst this
                exact heap_set_far (by omega))
              unfold RowI
              rw [e1, List.length_append, TJ.out, List.flatMap_append]
              exact h1
            go_roundw
            case rel => exact ⟨j + 1, _, by go_num, by omega, fin.out⟩
            case measure => first | (simp [intOf]; done) | (simp [intOf]; omega)
          · have hje : j = m := by omega
            have XT := Lib.hid (show Xs.take j = Xs by
              have h1 := MX.out
              exact List.take_of_length_le (by omega))
            have XL := Lib.hid (show (Xs.take j).length = m by rw [XT.out]; exact MX.out.symm)
            rw [XL.out] at x1
            have hj1 : decide ((j : Int) < (m : Int)) = false := by simp; omega
            have R0 := Lib.hid (show wr.ownsRow wq.heap.size 60 5 (.slice Ai m ci) m (Xs.flatMap FI.cells) by
              have h1 := hI.out.row
              unfold RowI at h1
              rw [XT.out, ← MX.out] at h1
              exact h1)
            have B0 := Lib.hid (show wr.heap[X]? = some (.cells #[.int .u16 a, .slice Ai m ci, .slice (some ⟨g2, 0, none⟩) n cap2] 53 (0, 0)) by
              have h1 := hI.out.box
              rw [XL.out] at h1
              exact h1)
            have U0 := Lib.hid hI.out.upd
            have OX : Hid (∀ k, (Value.slice Ai m ci).ownBlock = some k → k < wr.heap.size ∧ wq.heap.size ≤ k) := by
              have h1 := hI.out.row.own
              rw [XL.out] at h1
              exact h1
            have hXl2 := heap_lt hI.out.box
            have NW : Hid (∀ j u, ([.int .u16 0, .int .i64 777, .int .u16 0, .int .u16 0, .int .u16 0] : List Value)[j]? = some u → ((wr.alloc (.cells #[.int .u16 0, .int .i64 777, .int .u16 0, .int .u16 0, .int .u16 0] 60)).drew).cell? ((⟨wr.heap.size, 0, none⟩ : Addr).add j) = some u) := news5 (wr.alloc _) (heap_alloc_at _ _)
            have RA : Hid (((wr.alloc (.cells #[.int .u16 0, .int .i64 777, .int .u16 0, .int .u16 0, .int .u16 0] 60)).drew).ownsRow wq.heap.size 60 5 (.slice Ai m ci) m (Xs.flatMap FI.cells)) := R0.out.alloc _
            have AF : Hid (∀ (g4 cap4 : Nat) (w4 : World), w4.ownsRow wq.heap.size 60 5 (.slice (some ⟨g4, 0, none⟩) (m + 1) cap4) (m + 1) (Xs.flatMap FI.cells ++ [.int .u16 0, .int .i64 777, .int .u16 0, .int .u16 0, .int .u16 0]) →
                ((wr.alloc (.cells #[.int .u16 0, .int .i64 777, .int .u16 0, .int .u16 0, .int .u16 0] 60)).drew).grownBy w4 (Value.slice Ai m ci).ownBlock →
                w4.heap[X]? = some (.cells #[.int .u16 a, .slice Ai m ci, .slice (some ⟨g2, 0, none⟩) n cap2] 53 (0, 0)) ∧ m ≤ cap4 ∧ Hid (Upd wr w4 (fun i => wq.heap.size ≤ i)) ∧ Hid (w4.ownsRow wq.heap.size 60 5 (.slice (some ⟨g4, 0, none⟩) (m + 1) cap4) (m + 1) (Xs.flatMap FI.cells ++ [.int .u16 0, .int .i64 777, .int .u16 0, .int .u16 0, .int .u16 0]))) := by
              intro g4 cap4 w4 ho hg
              have hu := Upd.of_grown hg
              have q1 := ownsRow_some ho
              refine ⟨(hu.block X (by show X < (wr.alloc _).heap.size; simp; omega) (fun e => by have := (OX.out X e.symm).2; omega)).trans (heap_alloc_old B0.out), by omega, ?_, ho⟩
              exact (((Upd.refl wr _).alloc _).drew).trans hu (fun i hi e => (OX.out i e.symm).2)
            clear hI HW6 hje
            go_wp2_with (fail)
            go_cut [] (fun wx => ∃ g4 cap4, Hid (IE wr wx wq X g4 cap4 a m (.slice (some ⟨g2, 0, none⟩) n cap2) Xs))
            case first =>
              go_region_law (refine step_append_lies _ rfl (.tmp 71) (.tmp 73) 50 rfl wq.heap.size 60 i1 _ 5 24 Tryd.underlying50 hi1 hy0 hy1 hy2 rfl (by decide) (.slice Ai m ci) m (Xs.flatMap FI.cells) (by first | rfl | simp [Act.eval, Act.put]) RA.out ⟨wr.heap.size, 0, none⟩ 1 1 [.int .u16 0, .int .i64 777, .int .u16 0, .int .u16 0, .int .u16 0] (by first | rfl | simp [Act.eval, Act.put]) rfl NW.out (by simp [Value.oneCell']) (by decide) (by simp only [maxLen]; omega) (by omega) (by simp; omega) _ rfl ?_; intro g4 cap4 w4 ho hgr hat hlt'; obtain ⟨bx, hc4, U4, R4⟩ := AF.out g4 cap4 w4 ho hgr; have BX4 := Lib.hid bx; obtain ⟨⟨t0, t1, t2⟩, s0, s1, s2⟩ := cells3 bx; clear bx ho hgr hat hlt')
              all_goals
                go_wp2_with (fail)
                go_meet
                exact ⟨g4, cap4, IE.mk' hXs BX4.out U4.out R4.out⟩
            case rest =>
              obtain ⟨g4, cap4, hE⟩ := hcut
              have hbw : Below w0.heap.size w0 wc := hC.out.below.trans ((U0.out.trans (hE.out.upd.mono (fun i _ h => h)) (T := fun k => k = X ∨ wq.heap.size ≤ k) (fun i hi h => by omega)).below (by have := hC.out.below.size; omega) (fun i hi => by omega))
              have q4 := ownsRow_some hE.out.row
              have q2 := ownsRow_some hC.out.row
              have hne := hC.out.ne
              have hs0 := hC.out.below.size
              have hs1 := U0.out.size
              have hs2 := hE.out.upd.size
              have hav : 0 ≤ a ∧ a < 65536 := by rw [HA.out]; exact ⟨HW.out.at0, HW.out.at1⟩
              obtain ⟨t, ht⟩ : ∃ t : WT, t = ⟨⟨a.toNat, by omega⟩, some ⟨g4, 0, none⟩, m, cap4, some ⟨g2, 0, none⟩, n, cap2⟩ := ⟨_, rfl⟩
              have tc : t.cells = [.int .u16 a, .slice (some ⟨g4, 0, none⟩) m cap4, .slice (some ⟨g2, 0, none⟩) n cap2] := by
                rw [ht]
                show [Value.int .u16 ((a.toNat : Nat) : Int), _, _] = _
                rw [Int.toNat_of_nonneg hav.1]; rfl
              have tb : t.blks = [g4, g2] := by rw [ht]; rfl
              have CW : Hid (CvW wc w0.heap.size t x) := by
                refine ⟨?_, by rw [ht]; exact HM.out, by rw [ht]; exact HNN.out, ?_, ?_⟩
                · rw [ht]
                  show ((a.toNat : Nat) : Int) = x.at_
                  rw [Int.toNat_of_nonneg hav.1]; exact HA.out
                · rw [ht]
                  have h1 := hE.out.row
                  rw [HXS.out] at h1
                  rw [← HM.out]
                  obtain ⟨h2, h3⟩ := h1
                  refine ⟨h2, h3.imp id ?_⟩
                  rintro ⟨g, cap, cur, e, hg, r⟩
                  exact ⟨g, cap, cur, e, by omega, r⟩
                · rw [ht]
                  have h1 := hC.out.row
                  rw [← HNN.out, ← HL.out]
                  refine ownsRow_keep h1 (fun k hk => ?_)
                  have : g2 = k := by simpa [Value.ownBlock] using hk
                  subst this
                  exact (hE.out.upd.block g2 (by omega) (by omega)).trans (U0.out.block g2 (by omega) (by omega))
              have TB := Lib.hid tb
              have TC := Lib.hid tc
              have REL := Lib.hid hrel.out
              obtain ⟨⟨t0, t1, t2⟩, s0, s1, s2⟩ := cells3 hE.out.box
              have RW : Hid ((wc.alloc (.cells #[.int .u16 a, .slice (some ⟨g4, 0, none⟩) m cap4, .slice (some ⟨g2, 0, none⟩) n cap2] 53)).ownsRow w.heap.size 53 3 u3 k (ts.flatMap WT.cells)) := by
                have h1 := REL.out.row.move (W := wc) (fun i hi => hbw.block i (REL.out.row.own i hi).1)
                unfold RowW at h1
                rw [← HK.out] at h1
                exact h1.alloc _
              have hsw := REL.out.below.size
              have HBW := Lib.hid hbw
              have FIN : Hid (∀ (v' : Value) (w3 : World), (wc.alloc (.cells #[.int .u16 a, .slice (some ⟨g4, 0, none⟩) m cap4, .slice (some ⟨g2, 0, none⟩) n cap2] 53)).grownBy w3 u3.ownBlock → w3.ownsRow w.heap.size 53 3 v' (k + 1) (ts.flatMap WT.cells ++ [.int .u16 a, .slice (some ⟨g4, 0, none⟩) m cap4, .slice (some ⟨g2, 0, none⟩) n cap2]) →
                  (v'.ownBlock = u3.ownBlock ∨ v'.ownBlock = some (wc.alloc (.cells #[.int .u16 a, .slice (some ⟨g4, 0, none⟩) m cap4, .slice (some ⟨g2, 0, none⟩) n cap2] 53)).heap.size) → CvRel w w3 v' (ts ++ [t]) ws) := by
                intro v' w3 hg ho hat
                have hk2 : ts.length < ws.length := by rw [← HK.out, ← HN.out]; exact hlt
                refine REL.out.step (w2 := wc.alloc (.cells #[.int .u16 a, .slice (some ⟨g4, 0, none⟩) m cap4, .slice (some ⟨g2, 0, none⟩) n cap2] 53)) hk2 (b_alloc HBW.out _) ?_ ?_ (Upd.of_grown hg) ?_ (hat.imp id (fun e => ⟨_, e, Nat.le_refl _⟩))
                · have e : ws[ts.length] = x := by rw [HX.out]; simp only [HK.out]
                  rw [e]
                  exact CW.out.move (fun i hi => Below.heap_alloc _ _ _ (CW.out.lt i hi).1)
                · rw [TB.out]
                  simp; omega
                · unfold RowW
                  rw [List.length_append, List.flatMap_append, ← HK.out]
                  simpa [TC.out] using ho
              clear hE hbw q4 q2 tc tb ht hav CW hrel TB TC
              go_wp2_with (first
                | (at_builtin; refine wpList_append_own_at _ rfl _ _ 30 rfl w.heap.size 53 i2 _ 3 56 Tryd.underlying30 hi2 hx0 hx1 hx2 rfl (by decide) u3 k _ rfl RW.out ⟨wc.heap.size, 0, none⟩ 1 1 [.int .u16 a, .slice (some ⟨g4, 0, none⟩) m cap4, .slice (some ⟨g2, 0, none⟩) n cap2] rfl rfl ?hnews3 ?hone3 (by simp only [maxLen]; omega) (by omega) (by simp; omega) ?_; (case hnews3 => exact news3 _ (heap_alloc_at _ _)); (case hone3 => intro u hu; simp at hu; rcases hu with rfl | rfl | rfl <;> rfl); intro v' w3 ho hgr _ hat; have FN := Lib.hid (FIN.out v' w3 hgr ho hat); clear ho hgr hat))
              go_roundw
              case rel => exact ⟨ts ++ [t], by rw [List.length_append, ← HK.out]; simp; omega, by rw [List.length_append, ← HK.out]; go_num, FN⟩
              case measure => first | (simp [intOf]; done) | (simp [intOf]; omega)
    · have hke : k = N := by omega
      have FIN : Hid (∀ (g cap : Nat) (w3 : World), (wr.alloc (.cells #[.int .u16 7777, .slice none 0 0, .slice none 0 0] 53)).grownBy w3 u3.ownBlock → w3.ownsRow w.heap.size 53 3 (.slice (some ⟨g, 0, none⟩) (k + 1) cap) (k + 1) (ts.flatMap WT.cells ++ [.int .u16 7777, .slice none 0 0, .slice none 0 0]) →
          ((Value.slice (some ⟨g, 0, none⟩) (k + 1) cap).ownBlock = u3.ownBlock ∨ (Value.slice (some ⟨g, 0, none⟩) (k + 1) cap).ownBlock = some (wr.alloc (.cells #[.int .u16 7777, .slice none 0 0, .slice none 0 0] 53)).heap.size) → Hid (ConvPost w ws (.returned (.slice (some ⟨g, 0, none⟩) k cap)) w3) ∧ k ≤ cap) := by
        intro g cap w3 hg ho hat
        have hu := Upd.of_grown hg
        have q := ownsRow_some ho
        have e1 : k = ws.length := hke.trans HN.out
        have hs := hrel.out.below.size
        have dj : ∀ i, u3.ownBlock = some i → i ∉ blks ts := fun i hi hm => (List.nodup_append.1 hrel.out.apart).2.2 i (by simp [hi]) i hm rfl
        have hr := ho
        rw [e1] at hr
        refine ⟨⟨g, cap, ts, by rw [e1], by rw [← HK.out, e1], ?_, hr, fun i h1 h2 => ?_, ?_⟩, by omega⟩
        · exact (b_alloc hrel.out.below _).trans (hu.below (by simp; omega) (fun i hi => (hrel.out.row.own i hi.symm).2))
        · refine (hrel.out.rep i h1 h2).move (fun j hj => ?_)
          have hj' := (hrel.out.rep i h1 h2).lt j hj
          exact (hu.block j (by simp; omega) (fun e => dj j e.symm (mem_blks h1 hj))).trans (Below.heap_alloc _ _ _ hj'.1)
        · refine List.nodup_cons.2 ⟨fun hm => ?_, (List.nodup_append.1 hrel.out.apart).2.1⟩
          rcases hat with hat | hat
          · exact dj g hat.symm hm
          · have e2 : g = (wr.alloc (.cells #[.int .u16 7777, .slice none 0 0, .slice none 0 0] 53)).heap.size := Option.some.inj hat
            have := (hrel.out.blk g hm).1
            simp at e2; omega
      have RW : Hid ((wr.alloc (.cells #[.int .u16 7777, .slice none 0 0, .slice none 0 0] 53)).ownsRow w.heap.size 53 3 u3 k (ts.flatMap WT.cells)) := by
        have h1 := hrel.out.row
        unfold RowW at h1
        rw [← HK.out] at h1
        exact h1.alloc _
      have hsw := hrel.out.below.size
      obtain ⟨A3, c3, hu3⟩ := hrel.out.row.slice
      rw [← HK.out] at hu3
      subst hu3
      have hk7 : ¬ (k : Int) < (N : Int) := by omega
      have hk8 : k ≤ 60 := by omega
      clear hrel hke
      go_wp2_with (first
        | (at_builtin; refine wpList_append_own_at _ rfl _ _ 30 rfl w.heap.size 53 i2 _ 3 56 Tryd.underlying30 hi2 hx0 hx1 hx2 rfl (by decide) (.slice A3 k c3) k _ rfl RW.out ⟨wr.heap.size, 0, none⟩ 1 1 [.int .u16 7777, .slice none 0 0, .slice none 0 0] rfl rfl ?hnews4 ?hone4 (by simp only [maxLen]; omega) (by omega) (by simp; omega) ?_; (case hnews4 => exact news3 _ (heap_alloc_at _ _)); (case hone4 => intro u hu; simp at hu; rcases hu with rfl | rfl | rfl <;> rfl); intro v' w3 ho hgr _ hat; obtain ⟨g5, cap5, rfl⟩ := ownsRow_succ ho; obtain ⟨FN, hc5⟩ := FIN.out g5 cap5 w3 hgr ho hat; clear ho hgr hat FIN))
      go_ret
      exact FN.out
end Go.Proofs.YtabeljpnmmfpgaaDoor

namespace Go.Proofs.YtabeljpnmmfpgaaDoor
open Go.RowKit Go.MapKept Go.Maps Go.Sort
set_option linter.unusedVariables false
set_option linter.unusedSimpArgs false

set_option maxRecDepth 100000 in
set_option maxHeartbeats 2000000 in
theorem has_any (w : World) (A : Option Addr) (n c : Nat) (l : List Int) (x : Int) (hn : n = l.length) (h : AtsIn w A l) :
    Calls Tryd.prog 22 #[.slice A n c, .int .u16 x] w fun e w' => e = .returned (.bool (decide (x ∈ l))) ∧ w' = w := by
  have HA := Lib.hid h
  have HN := Lib.hid hn
  have hl : n ≤ 1000000000000 := by rw [hn]; exact h.len
  clear h hn
  go_enter Tryd.func22, Tryd.ntmps22
  go_wp2_with (fail)
  go_loopw [5] (fun i wr => ∃ k : Nat, k ≤ n ∧ i = .int .i64 k ∧ wr = w ∧ Hid (x ∉ l.take k)) (fun i _ => n - (intOf i).toNat)
  case atStart => exact ⟨0, Nat.zero_le _, rfl, rfl, Lib.hid (by simp)⟩
  case round =>
    obtain ⟨k, hk, rfl, rfl, hx⟩ := hrel
    by_cases hlt : k < n
    · have hlk : k < l.length := by rw [← HN.out]; exact hlt
      obtain ⟨b, off, rfl, c0⟩ := HA.out.at_ k hlk
      obtain ⟨y, hy⟩ : ∃ y, y = l[k] := ⟨_, rfl⟩
      rw [← hy] at c0
      have HY := Lib.hid hy
      have TK := Lib.hid (List.take_append_getElem hlk)
      clear hy
      by_cases e : y = x
      · have hm : decide (x ∈ l) = true := by
          rw [decide_eq_true_eq, ← e, HY.out]; exact List.getElem_mem hlk
        subst e
        go_wp2_with (fail)
        go_ret
        exact ⟨by rw [hm]; rfl, rfl⟩
      · have hx2 : Hid (x ∉ l.take (k + 1)) := fun hm => by
          have h1 := TK.out
          rw [← h1] at hm
          rcases List.mem_append.1 hm with hm | hm
          · exact hx.out hm
          · simp only [List.mem_singleton] at hm
            exact e (by rw [HY.out, hm])
        go_wp2_with (fail)
        go_roundw
        case rel => exact ⟨k + 1, hlt, by go_num, by first | rfl | trivial, hx2⟩
        case measure => first | (simp [intOf]; done) | (simp [intOf]; omega)
    · have hm : decide (x ∈ l) = false := by
        have h1 := hx.out
        rw [List.take_of_length_le (by have := HN.out; omega)] at h1
        simpa using h1
      go_wp2_with (fail)
      go_ret
      exact ⟨by rw [hm]; rfl, rfl⟩
end Go.Proofs.YtabeljpnmmfpgaaDoor

namespace Go.Proofs.YtabeljpnmmfpgaaDoor
open Go.RowKit Go.MapKept Go.Maps Go.Sort
set_option linter.unusedVariables false
set_option linter.unusedSimpArgs false

set_option maxRecDepth 100000 in
set_option maxHeartbeats 2000000 in
theorem rhas_any (w : World) (A : Option Addr) (n c : Nat) (l : List Int) (x : Int) (hn : n = l.length) (h : AtsIn w A l) :
    Calls Tryd.prog 39 #[.slice A n c, .int .u16 x] w fun e w' => e = .returned (.bool (decide (x ∈ l))) ∧ w' = w := by
  have HA := Lib.hid h
  have HN := Lib.hid hn
  have hl : n ≤ 1000000000000 := by rw [hn]; exact h.len
  clear h hn
  go_enter Tryd.func39, Tryd.ntmps39
  go_wp2_with (fail)
  go_loopw [5] (fun i wr => ∃ k : Nat, k ≤ n ∧ i = .int .i64 k ∧ wr = w ∧ Hid (x ∉ l.take k)) (fun i _ => n - (intOf i).toNat)
  case atStart => exact ⟨0, Nat.zero_le _, rfl, rfl, Lib.hid (by simp)⟩
  case round =>
    obtain ⟨k, hk, rfl, rfl, hx⟩ := hrel
    by_cases hlt : k < n
    · have hlk : k < l.length := by rw [← HN.out]; exact hlt
      obtain ⟨b, off, rfl, c0⟩ := HA.out.at_ k hlk
      obtain ⟨y, hy⟩ : ∃ y, y = l[k] := ⟨_, rfl⟩
      rw [← hy] at c0
      have HY := Lib.hid hy
      have TK := Lib.hid (List.take_append_getElem hlk)
      clear hy
      by_cases e : y = x
      · have hm : decide (x ∈ l) = true := by
          rw [decide_eq_true_eq, ← e, HY.out]; exact List.getElem_mem hlk
        subst e
        go_wp2_with (fail)
        go_ret
        exact ⟨by rw [hm]; rfl, rfl⟩
      · have hx2 : Hid (x ∉ l.take (k + 1)) := fun hm => by
          have h1 := TK.out
          rw [← h1] at hm
          rcases List.mem_append.1 hm with hm | hm
          · exact hx.out hm
          · simp only [List.mem_singleton] at hm
            exact e (by rw [HY.out, hm])
        go_wp2_with (fail)
        go_roundw
        case rel => exact ⟨k + 1, hlt, by go_num, by first | rfl | trivial, hx2⟩
        case measure => first | (simp [intOf]; done) | (simp [intOf]; omega)
    · have hm : decide (x ∈ l) = false := by
        have h1 := hx.out
        rw [List.take_of_length_le (by have := HN.out; omega)] at h1
        simpa using h1
      go_wp2_with (fail)
      go_ret
      exact ⟨by rw [hm]; rfl, rfl⟩

set_option maxRecDepth 100000 in
set_option maxHeartbeats 2000000 in
theorem rall_any (w : World) (A B : Option Addr) (n c m d : Nat) (T l : List Int) (hn : n = T.length) (hm : m = l.length) (h : AtsIn w A T) (hl : AtsIn w B l) :
    Calls Tryd.prog 46 #[.slice A n c, .slice B m d] w fun e w' => e = .returned (.bool (!(l.any fun y => decide (y ∉ T)))) ∧ w' = w := by
  have HR := Lib.hid (fun x => rhas_any w A n c T x hn h)
  have HB := Lib.hid hl
  have HM := Lib.hid hm
  have hl1 : m ≤ 1000000000000 := by rw [hm]; exact hl.len
  obtain ⟨q, hq⟩ : ∃ q, q = l.any fun y => decide (y ∉ T) := ⟨_, rfl⟩
  rw [← hq]
  have HQ := Lib.hid hq
  clear h hl hn hm hq
  go_enter Tryd.func46, Tryd.ntmps46
  go_wp2_with (fail)
  go_loopw [5] (fun i wr => ∃ k : Nat, k ≤ m ∧ i = .int .i64 k ∧ wr = w ∧ Hid ((l.take k).any (fun y => decide (y ∉ T)) = false)) (fun i _ => m - (intOf i).toNat)
  case atStart => exact ⟨0, Nat.zero_le _, rfl, rfl, Lib.hid (by simp)⟩
  case round =>
    obtain ⟨k, hk, rfl, rfl, hx⟩ := hrel
    by_cases hlt : k < m
    · have hlk : k < l.length := by rw [← HM.out]; exact hlt
      obtain ⟨b, off, rfl, c0⟩ := HB.out.at_ k hlk
      obtain ⟨y, hy⟩ : ∃ y, y = l[k] := ⟨_, rfl⟩
      rw [← hy] at c0
      have HY := Lib.hid hy
      have TK := Lib.hid (List.take_append_getElem hlk)
      have hkm : (k : Int) < (m : Int) := by omega
      clear hy
      by_cases e : y ∈ T
      · have dm : decide (y ∈ T) = true := decide_eq_true e
        have hx2 : Hid ((l.take (k + 1)).any (fun y => decide (y ∉ T)) = false) := by
          show _ = _
          rw [← TK.out, List.any_append, hx.out, ← HY.out]
          simp [e]
        have HS := Lib.hid (HR.out y)
        rw [dm] at HS
        clear e dm
        go_wp2_with (fail)
        refine HS.out.mono ?_
        rintro e w' ⟨rfl, rfl⟩
        go_wp2_with (fail)
        go_roundw
        case rel => exact ⟨k + 1, hlt, by go_num, by first | rfl | trivial, hx2⟩
        case measure => first | (simp [intOf]; done) | (simp [intOf]; omega)
      · have dm : decide (y ∈ T) = false := decide_eq_false e
        have fin : Hid (q = true) := HQ.out.trans (List.any_eq_true.2 ⟨y, by rw [HY.out]; exact List.getElem_mem hlk, by simpa using e⟩)
        have HS := Lib.hid (HR.out y)
        rw [dm] at HS
        clear e dm
        go_wp2_with (fail)
        refine HS.out.mono ?_
        rintro e w' ⟨rfl, rfl⟩
        go_wp2_with (fail)
        go_ret
        exact ⟨by rw [fin.out]; rfl, rfl⟩
    · have fin : Hid (q = false) := by
        have h1 := hx.out
        rw [List.take_of_length_le (by have := HM.out; omega)] at h1
        exact HQ.out.trans h1
      have hkm : ¬ (k : Int) < (m : Int) := by omega
      go_wp2_with (fail)
      go_ret
      exact ⟨by rw [fin.out]; rfl, rfl⟩

theorem same_take {a b : List Int} {k : Nat} (h : a.take k = b.take k) (ha : k < a.length) (hb : k < b.length) (e : a[k] = b[k]) : a.take (k + 1) = b.take (k + 1) := by
  rw [← List.take_append_getElem ha, ← List.take_append_getElem hb, h, e]
set_option maxRecDepth 100000 in
set_option maxHeartbeats 2000000 in
theorem sameCells_any (w : World) (A B : Option Addr) (n c m d : Nat) (a b : List Int) (hn : n = a.length) (hm : m = b.length) (h : AtsIn w A a) (hl : AtsIn w B b) :
    Calls Tryd.prog 29 #[.slice A n c, .slice B m d] w fun e w' => e = .returned (.bool (decide (a = b))) ∧ Below w.heap.size w w' := by
  have HA := Lib.hid h
  have HB := Lib.hid hl
  have HN := Lib.hid hn
  have HM := Lib.hid hm
  have hl1 : n ≤ 1000000000000 := by rw [hn]; exact h.len
  clear h hl hn hm
  go_enter Tryd.func29, Tryd.ntmps29
  by_cases hnm : n = m
  · subst hnm
    go_wp2_with (fail)
    go_loopw [5] (fun i wr => ∃ k : Nat, k ≤ n ∧ i = .int .i64 k ∧ Hid (Below w.heap.size w wr) ∧ Hid (a.take k = b.take k)) (fun i _ => n - (intOf i).toNat)
    case atStart => exact ⟨0, Nat.zero_le _, rfl, Lib.hid (Below.refl _ _), Lib.hid (by simp)⟩
    case round =>
      obtain ⟨k, hk, rfl, hw, hx⟩ := hrel
      by_cases hlt : k < n
      · have hka : k < a.length := by rw [← HN.out]; exact hlt
        have hkb : k < b.length := by rw [← HM.out]; exact hlt
        obtain ⟨b1, o1, rfl, c0⟩ := HA.out.at_ k hka
        obtain ⟨b2, o2, rfl, d0⟩ := HB.out.at_ k hkb
        have c1 := keep_cell c0 hw.out
        have d1 := keep_cell d0 hw.out
        have TK := Lib.hid (same_take hx.out hka hkb)
        obtain ⟨x, hx'⟩ : ∃ x, x = a[k] := ⟨_, rfl⟩
        obtain ⟨y, hy'⟩ : ∃ y, y = b[k] := ⟨_, rfl⟩
        have NE : Hid (x ≠ y → a ≠ b) := fun hne e => hne (by rw [hx', hy']; simp only [e])
        rw [← hx'] at c1 TK
        rw [← hy'] at d1 TK
        have hkm : (k : Int) < (n : Int) := by omega
        have NX : Hid (∀ nq, Below w.heap.size w (wr.drewN nq)) := fun nq => b_drewN hw.out nq
        clear hx' hy' c0 d0 hw
        by_cases e : x = y
        · have hx2 := Lib.hid (TK.out e)
          subst e
          go_wp2_with (fail)
          go_quiet (fail)
          go_wp2_with (fail)
          go_roundw
          case rel => exact ⟨k + 1, hlt, by go_num, NX.out nq, hx2⟩
          case measure => first | (simp [intOf]; done) | (simp [intOf]; omega)
        · have fin : Hid (decide (a = b) = false) := decide_eq_false (NE.out e)
          have xy : (x == y) = false := by simpa using e
          go_wp2_with (fail)
          go_quiet (fail)
          go_wp2_with (fail)
          go_ret
          exact ⟨by rw [fin.out]; rfl, NX.out nq⟩
      · have fin : Hid (decide (a = b) = true) := by
          have h1 := hx.out
          rw [List.take_of_length_le (by have := HN.out; omega), List.take_of_length_le (by have := HM.out; omega)] at h1
          exact decide_eq_true h1
        have hkm : ¬ (k : Int) < (n : Int) := by omega
        go_wp2_with (fail)
        go_ret
        exact ⟨by rw [fin.out]; rfl, hw.out⟩
  · have fin : Hid (decide (a = b) = false) := decide_eq_false (fun e => hnm (by rw [HN.out, HM.out, e]))
    have d1 : ((n : Int) == (m : Int)) = false := by simp; omega
    have d2 : ¬ (n : Int) = (m : Int) := by omega
    go_wp2_with (fail)
    go_ret
    exact ⟨by rw [fin.out]; rfl, Below.refl _ _⟩
end Go.Proofs.YtabeljpnmmfpgaaDoor
