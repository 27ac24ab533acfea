/-
  Plain: flow's words as the document's.
-/
import Derived.Deep.AppendLies
import Derived.Test.YtabeljpnmmfpgaaDoorFlRefOrd
namespace Go.Proofs.YtabeljpnmmfpgaaDoor
open Go.RowKit Go.MapKept Go.Maps Go.Sort
set_option linter.unusedVariables false
set_option linter.unusedSimpArgs false

theorem ownsRow_lower {w : World} {base base' : Nat} {e : TypeId} {size n : Nat} {v : Value} {xs : List Value} (h : w.ownsRow base e size v n xs) (hb : base' ≤ base) : w.ownsRow base' e size v n xs := by
  obtain ⟨h1, h2⟩ := h
  refine ⟨h1, h2.imp id ?_⟩
  rintro ⟨g, cap, cur, e, hg, r⟩
  exact ⟨g, cap, cur, e, by omega, r⟩
theorem ownsRow_own {w : World} {base : Nat} {e : TypeId} {size n : Nat} {v : Value} {xs : List Value} (h : w.ownsRow base e size v n xs) (k : Nat) (hk : v.ownBlock = some k) : k < w.heap.size ∧ base ≤ k := by
  rcases h.2 with ⟨rfl, _⟩ | ⟨g, cap, cur, rfl, hb, hh, _⟩
  · simp [Value.ownBlock] at hk
  · have : g = k := by simpa [Value.ownBlock] using hk
    subst this
    exact ⟨heap_lt hh, hb⟩
theorem ownsRow_slice {w : World} {base : Nat} {e : TypeId} {size n : Nat} {v : Value} {xs : List Value} (h : w.ownsRow base e size v n xs) : ∃ A c, v = .slice A n c := by
  rcases h.2 with ⟨rfl, hn⟩ | ⟨g, cap, cur, rfl, _⟩
  · exact ⟨none, 0, by rw [hn]⟩
  · exact ⟨_, cap, rfl⟩
theorem insIn_of_row {w : World} {base n c : Nat} {e : TypeId} {A : Option Addr} {l : List FI} (h : w.ownsRow base e 5 (.slice A n c) l.length (l.flatMap FI.cells)) (hl : l.length ≤ 2000000) : InsIn w A l := by
  refine ⟨hl, fun i hi => ?_⟩
  rcases h.2 with ⟨e, hn⟩ | ⟨g, cap, cur, e, hg, _⟩
  · omega
  · cases e
    have key : ∀ k u, k < 5 → (l[i]).cells[k]? = some u → w.cell? ⟨g, 0 + i * 5 + k, none⟩ = some u := fun k u hk hu => by
      have := h.cells (g := g) rfl (i * 5 + k) u (by rw [flat5 l i k hi hk]; exact hu)
      have e : (⟨g, 0, none⟩ : Addr).add (i * 5 + k) = ⟨g, 0 + i * 5 + k, none⟩ := by unfold Addr.add; split <;> simp_all
      rwa [e] at this
    exact ⟨g, 0, rfl, key 0 _ (by decide) rfl, key 1 _ (by decide) rfl, key 2 _ (by decide) rfl, key 3 _ (by decide) rfl, key 4 _ (by decide) rfl⟩
/-- A word as Plain lays it. -/
structure CpW (W : World) (base : Nat) (t : WT) (x : FW) : Prop where
  at_ : (t.at_.val : Int) = x.at_
  il : t.il = x.instrs.length
  cl : t.cl = x.calls.length
  ins : W.ownsRow base 91 5 t.vi x.instrs.length (x.instrs.flatMap FI.cells)
  calls : RowU W base t.vc x.calls
theorem CpW.move {w W : World} {base : Nat} {t : WT} {x : FW} (h : CpW w base t x) (hm : ∀ k, k ∈ t.blks → W.heap[k]? = w.heap[k]?) : CpW W base t x :=
  ⟨h.at_, h.il, h.cl, ownsRow_keep h.ins (fun k hk => hm k (by simp [WT.blks, hk])), h.calls.move (fun k hk => hm k (by simp [WT.blks, hk]))⟩
theorem CpW.lt {w : World} {base : Nat} {t : WT} {x : FW} (h : CpW w base t x) (k : Nat) (hk : k ∈ t.blks) : k < w.heap.size ∧ base ≤ k := by
  rcases List.mem_append.1 hk with hk | hk
  · exact ownsRow_own h.ins k (by simpa using hk)
  · exact ownsRow_own h.calls k (by simpa using hk)
theorem infoRI : (Tryd.prog.info? 91).map (fun i => (i.zero, i.size, i.bytes)) = some (some (.agg #[.int .u16 0, .int .i64 0, .int .u16 0, .int .u16 0, .int .u16 0]), 5, 24) := by kernel_rfl
/-- The first k words, laid. -/
structure CpRel (w wr : World) (v : Value) (ts : List WT) (ws : List FW) : Prop where
  below : Below w.heap.size w wr
  row : RowX wr w.heap.size v ts
  len : ts.length ≤ ws.length
  rep : ∀ (i : Nat) (h1 : i < ts.length) (h2 : i < ws.length), CpW wr w.heap.size ts[i] ws[i]
  apart : (v.ownBlock.toList ++ blks ts).Nodup
theorem CpRel.blk {w wr : World} {v : Value} {ts : List WT} {ws : List FW} (h : CpRel w wr v ts ws) (k : Nat) (hk : k ∈ blks ts) : k < wr.heap.size ∧ w.heap.size ≤ k := by
  obtain ⟨i, hi, hk'⟩ := blks_mem hk
  exact (h.rep i hi (by have := h.len; omega)).lt k hk'
/-- One word more. -/
theorem CpRel.step {w wr w2 w3 : World} {v v' : Value} {ts : List WT} {ws : List FW} {t : WT} (h : CpRel w wr v ts ws) (hk : ts.length < ws.length) (hb : Below wr.heap.size wr w2) (hc : CpW w2 wr.heap.size t ws[ts.length]) (hd : t.blks.Nodup)
    (hg : Upd w2 w3 (fun i => some i = v.ownBlock)) (hv : RowX w3 w.heap.size v' (ts ++ [t])) (hn : v'.ownBlock = v.ownBlock ∨ ∃ b, v'.ownBlock = some b ∧ w2.heap.size ≤ b) : CpRel w w3 v' (ts ++ [t]) ws := by
  have s1 := h.below.size
  have s2 := hb.size
  have s3 := hg.size
  have bv : ∀ k, v.ownBlock = some k → k < wr.heap.size ∧ w.heap.size ≤ k := fun k hk => h.row.own k hk
  have dj : ∀ k, v.ownBlock = some k → k ∉ blks ts := fun k hk hm => (List.nodup_append.1 h.apart).2.2 k (by simp [hk]) k hm rfl
  refine ⟨?_, hv, by simp; omega, fun i h1 h2 => ?_, ?_⟩
  · exact (b_then h.below hb).trans (hg.below (by omega) (fun i hi => (bv i hi.symm).2))
  · by_cases hi : i < ts.length
    · rw [List.getElem_append_left hi]
      refine (h.rep i hi h2).move (fun k hk => ?_)
      have hk' := (h.rep i hi h2).lt k hk
      exact (hg.block k (by omega) (fun e => dj k e.symm (mem_blks hi hk))).trans (hb.block k hk'.1)
    · have e : i = ts.length := by simp at h1; omega
      subst e
      have hc' : CpW w2 w.heap.size t ws[ts.length] := by
        exact ⟨hc.at_, hc.il, hc.cl, ownsRow_lower hc.ins (by omega), hc.calls.lower (by omega)⟩
      simp only [List.getElem_append_right (Nat.le_refl ts.length), Nat.sub_self, List.getElem_cons_zero]
      refine hc'.move (fun k hk => ?_)
      have hk' := hc.lt k hk
      exact hg.block k hk'.1 (fun e => by have := (bv k e.symm).1; omega)
  · have e : blks (ts ++ [t]) = blks ts ++ t.blks := by unfold blks; simp
    rw [e]
    have nb : (blks ts).Nodup := (List.nodup_append.1 h.apart).2.1
    have inner : (blks ts ++ t.blks).Nodup := by
      refine List.nodup_append.2 ⟨nb, hd, fun a ha b hb' e => ?_⟩
      subst e
      have := (h.blk a ha).1
      have := (hc.lt a hb').2
      omega
    refine List.nodup_append.2 ⟨by cases v'.ownBlock <;> simp, inner, fun a ha b hb' e => ?_⟩
    subst e
    have ha' : v'.ownBlock = some a := by simpa using ha
    rcases hn with hn | ⟨b, hn, hb2⟩
    · rw [hn] at ha'
      rcases List.mem_append.1 hb' with hm | hm
      · exact dj a ha' hm
      · have := (bv a ha').1; have := (hc.lt a hm).2; omega
    · rw [hn] at ha'
      obtain rfl := Option.some.inj ha'
      rcases List.mem_append.1 hb' with hm | hm
      · have := (h.blk b hm).1; omega
      · have := (hc.lt b hm).1; omega
/-- The instructions of a word, copied one by one. -/
structure IP (wc w6 : World) (X : Nat) (a : Int) (vi vs : Value) (l : List FI) : Prop where
  upd : Upd wc w6 (fun k => k = X)
  box : w6.heap[X]? = some (.cells #[.int .u16 a, vi, vs] 76 (0, 0))
  row : w6.ownsRow wc.heap.size 91 5 vi l.length (l.flatMap FI.cells)
/-- A word begun: its address, its calls. -/
structure C4 (wr wx : World) (X g cap : Nat) (a : Int) (n : Nat) (l : List Value) : Prop where
  below : Below wr.heap.size wr wx
  base : wr.heap.size ≤ X
  ne : X ≠ g
  box : wx.heap[X]? = some (.cells #[.int .u16 a, .slice none 0 0, .slice (some ⟨g, 0, none⟩) n cap] 76 (0, 0))
  row : wx.ownsRow wr.heap.size 23 1 (.slice (some ⟨g, 0, none⟩) n cap) n l
theorem C4.fresh {wr w2 : World} {g cap : Nat} {a : Int} {n : Nat} {l : List Value} (hb : Below wr.heap.size wr w2) (hr : w2.ownsRow wr.heap.size 23 1 (.slice (some ⟨g, 0, none⟩) n cap) n l) :
    C4 wr (w2.alloc (.cells #[.int .u16 a, .slice none 0 0, .slice (some ⟨g, 0, none⟩) n cap] 76)) w2.heap.size g cap a n l :=
  ⟨b_alloc hb _, hb.size, by have := (ownsRow_some hr).2.1; omega, heap_alloc_at _ _, hr.alloc _⟩
theorem C4.stored {wr w2 : World} {X g cap : Nat} {a : Int} {n : Nat} {l : List Value} (hb : Below wr.heap.size wr w2) (hX : wr.heap.size ≤ X) (hz : w2.heap[X]? = some (.cells #[.int .u16 0, .slice none 0 0, .slice none 0 0] 76 (0, 0)))
    (hr : w2.ownsRow wr.heap.size 23 1 (.slice (some ⟨g, 0, none⟩) n cap) n l) :
    C4 wr (World.setCell (World.setCell (World.setCell w2 ⟨X, 0, none⟩ (.int .u16 a)) ⟨X, 1, none⟩ (.slice none 0 0)) ⟨X, 2, none⟩ (.slice (some ⟨g, 0, none⟩) n cap)) X g cap a n l := by
  have hne : X ≠ g := by
    rintro rfl
    rcases hr.2 with ⟨e, _⟩ | ⟨g', cap', cur, e, _, hh, _⟩
    · cases e
    · cases e
      rw [hz] at hh
      cases hh
  refine ⟨?_, hX, hne, heap_set_cell (heap_set_cell (heap_set_cell hz 0 _) 1 _) 2 _, ownsRow_keep hr (fun k hk => ?_)⟩
  · have s1 := hb.size
    exact ((hb.setCell (p := ⟨X, 0, none⟩) hX _).setCell (p := ⟨X, 1, none⟩) hX _).setCell (p := ⟨X, 2, none⟩) hX _
  · have : g = k := by simpa [Value.ownBlock] using hk
    subst this
    rw [heap_set_far (by omega), heap_set_far (by omega), heap_set_far (by omega)]

/-- What Plain answers. -/
def PlnPost (w : World) (ws : List FW) (e : Ending) (w' : World) : Prop := ∃ A c, e = .returned (.slice A ws.length c) ∧ Below w.heap.size w w' ∧ FWin w' A ws ∧ (A = none → ws.length = 0 ∧ c = 0)

set_option maxRecDepth 100000 in
set_option maxHeartbeats 4000000 in
theorem plain_any (w : World) (A : Option Addr) (c : Nat) (ws : List FW) (h : FWin w A ws) (hl : ws.length ≤ 20000) :
    Calls Tryd.prog 14 #[.slice A ws.length c] w fun e w' => PlnPost w ws e w' := by
  obtain ⟨i0, hi0, hz0, hz1, hz2⟩ := info_parts infoU16
  obtain ⟨i1, hi1, hy0, hy1, hy2⟩ := info_parts infoRI
  obtain ⟨i2, hi2, hx0, hx1, hx2⟩ := info_parts infoX
  have HF := Lib.hid h
  have start : Hid (CpRel w w (.slice none 0 0) [] ws) := ⟨Below.refl _ _, World.ownsRow_nil _ _ _ _, by simp, fun i h1 _ => by simp at h1, by simp [Value.ownBlock, blks]⟩
  obtain ⟨N, hN⟩ : ∃ N, N = ws.length := ⟨_, rfl⟩
  rw [← hN]
  rw [← hN] at hl
  have HN := Lib.hid hN
  clear h hN
  go_enter Tryd.func14, Tryd.ntmps14
  go_wp2_with (fail)
  go_loopw [3, 4] (fun v i wr => ∃ ts, ts.length ≤ N ∧ i = .int .i64 ts.length ∧ Hid (CpRel w wr v ts ws)) (fun _ i _ => N - (intOf i).toNat)
  case atStart => exact ⟨[], by simp, rfl, start⟩
  case round =>
    obtain ⟨ts, hk, rfl, hrel⟩ := hrel
    obtain ⟨k, hk'⟩ : ∃ k, k = ts.length := ⟨_, rfl⟩
    have HK := Lib.hid hk'
    rw [← hk'] at hk ⊢
    clear hk'
    by_cases hlt : k < N
    · obtain ⟨b, off, ia, ic, ca, cc, rfl, hw0⟩ := HF.out k (by rw [← HN.out]; exact hlt)
      have hw := hw0.below hrel.out.below
      obtain ⟨x, hx⟩ : ∃ x, x = ws[k]'(by rw [← HN.out]; exact hlt) := ⟨_, rfl⟩
      rw [← hx] at hw
      have HX := Lib.hid hx
      have HW := Lib.hid hw
      clear hx hw0 hw
      obtain ⟨a, ha⟩ : ∃ a, a = x.at_ := ⟨_, rfl⟩
      obtain ⟨n, hn⟩ : ∃ n, n = x.calls.length := ⟨_, rfl⟩
      obtain ⟨m, hm⟩ : ∃ m, m = x.instrs.length := ⟨_, rfl⟩
      have c0 := HW.out.c0
      have c1 := HW.out.c1
      have c2 := HW.out.c2
      have hn2 := HW.out.small
      have hm2 := HW.out.ins.len
      rw [← ha] at c0
      rw [← hn] at c2 hn2
      rw [← hm] at c1 hm2
      have HA := Lib.hid ha
      have HNN := Lib.hid hn
      have HM := Lib.hid hm
      clear ha hn hm
      have hb0 : b < wr.heap.size := World.block_lt_of_cell? _ _ c0
      have hk0 : (0 : Int) ≤ (k : Int) := Int.natCast_nonneg _
      have hk1 : (k : Int) < (N : Int) := by omega
      have OWN : Hid (∀ (W : World) (g0 : Nat), wr.heap.size ≤ g0 → W.heap[g0]? = some (.cells #[] 23 (0, 0)) → W.ownsRow wr.heap.size 23 1 (.slice (some ⟨g0, 0, none⟩) 0 0) 0 []) := fun W g0 hg hh => ⟨rfl, .inr ⟨g0, 0, #[], rfl, hg, hh, Nat.le_refl _, by simp [maxLen], rfl, rfl⟩⟩
      have NIL : Hid (ca = none → cc = 0 ∧ n = 0) := fun e => ⟨HW.out.nil e, by
        rw [HNN.out]
        by_cases h0 : 0 < x.calls.length
        · obtain ⟨_, _, e2, _⟩ := HW.out.calls.at_ 0 h0
          rw [e] at e2; cases e2
        · omega⟩
      have LEN := Lib.hid (show (x.calls.map (Value.int .u16)).length = n * 1 by rw [HNN.out]; simp)
      have ONE : Hid (∀ u ∈ x.calls.map (Value.int .u16), u.oneCell' = true) := by
        intro u hu
        obtain ⟨y, _, rfl⟩ := List.mem_map.1 hu
        rfl
      have NEWS : Hid (∀ W, Below wr.heap.size wr W → ∀ ad, ca = some ad → ∀ j u, (x.calls.map (Value.int .u16))[j]? = some u → W.cell? (ad.add j) = some u) := by
        intro W hW ad e j u hj
        rw [List.getElem?_map] at hj
        obtain ⟨y, hy, rfl⟩ := Option.map_eq_some_iff.1 hj
        obtain ⟨hj1, rfl⟩ := List.getElem?_eq_some_iff.1 hy
        obtain ⟨b2, o2, e2, hc⟩ := HW.out.calls.at_ j hj1
        rw [e] at e2
        cases e2
        rw [show (⟨b2, o2, none⟩ : Addr).add j = ⟨b2, o2 + j, none⟩ by unfold Addr.add; split <;> simp_all]
        exact keep_cell hc hW
      have A1 : Hid (∀ (W w1 : World) (g0 g1 cap1 : Nat), Below wr.heap.size wr W → wr.heap.size ≤ g0 → w1.ownsRow wr.heap.size 23 1 (.slice (some ⟨g1, 0, none⟩) n cap1) n (x.calls.map (Value.int .u16)) → Upd W w1 (fun k => k = g0) → (g1 = g0 ∨ g1 = W.heap.size) →
          w1.cell? ⟨b, off + k * 3, none⟩ = some (.int .u16 a) ∧ w1.cell? ⟨b, off + k * 3 + 2, none⟩ = some (.slice ca n cc) ∧ Hid (Below wr.heap.size wr w1) ∧ Hid (w1.ownsRow wr.heap.size 23 1 (.slice (some ⟨g1, 0, none⟩) n cap1) n (x.calls.map (Value.int .u16))) ∧ Hid (wr.heap.size ≤ g1 ∧ g1 < w1.heap.size) ∧ Hid (Upd W w1 (fun k => k = g0)) ∧ Hid (g1 = g0 ∨ g1 = W.heap.size)) := by
        intro W w1 g0 g1 cap1 hW hg ho hu hat
        obtain ⟨q1, q2, q3⟩ := ownsRow_some ho
        have hb1 : Below wr.heap.size wr w1 := below_app hW hW.size hg hu
        exact ⟨keep_cell c0 hb1, keep_cell c2 hb1, hb1, ho, ⟨q1, q2⟩, hu, hat⟩
      obtain ⟨L, hL⟩ : ∃ L : List Value, L = x.calls.map (Value.int .u16) := ⟨_, rfl⟩
      rw [← hL] at LEN ONE NEWS A1
      have HL := Lib.hid hL
      clear hL
      have bwr := Lib.hid ((Below.refl wr.heap.size wr).drew)
      go_wp2_with (fail)
      go_cut [5] (fun p wx => ∃ X g2 cap2, p = .pointer (some ⟨X, 0, none⟩) ∧ Hid (C4 wr wx X g2 cap2 a n L))
      case first =>
        go_region_held3 (fun w' => w'.cell? ⟨b, off + k * 3, none⟩ = some (.int .u16 a) ∧ w'.cell? ⟨b, off + k * 3 + 2, none⟩ = some (.slice ca n cc))
          (first | (refine ⟨keep_cell c0 ?_, keep_cell c2 ?_⟩ <;> (first | exact (b_alloc (b_alloc (b_alloc (Below.refl _ _) _) _) _).drew | exact (b_alloc (b_alloc (Below.refl _ _) _) _).drew)) | go_keep | (refine ⟨?_, ?_⟩ <;> (rw [World.cell?_setCell_other _ _ _ _ (by first | (simp; done) | (simp; omega)), World.cell?_setCell_other _ _ _ _ (by first | (simp; done) | (simp; omega)), World.cell?_setCell_other _ _ _ _ (by first | (simp; done) | (simp; omega))]; assumption)) | fail)
          (first
          | (refine step_append_own rfl _ _ 51 rfl wr.heap.size 23 i0 _ 1 2 Tryd.underlying51 hi0 hz0 hz1 hz2 rfl (by decide) _ 0 0 [] rfl (OWN.out _ _ (by omega) (by first | (refine alloc_at _ ?_; (first | (simp; done) | (simp; omega))) | (refine heap_alloc_old (alloc_at _ ?_); (first | (simp; done) | (simp; omega))) | (refine heap_alloc_old (heap_alloc_old (alloc_at _ ?_)); (first | (simp; done) | (simp; omega))))) ca n cc L rfl NIL.out LEN.out (NEWS.out _ (by first | exact b_alloc bwr.out _ | exact b_alloc (b_alloc bwr.out _) _ | exact b_alloc (b_alloc (b_alloc bwr.out _) _) _)) ONE.out (by simp only [maxLen]; omega) (by omega) (by first | (simp; done) | (simp; omega)) n (by omega) ?_
             intro g1 cap1 w1 ho hu hat
             obtain ⟨k0, k1, B1, R1, G1, U1, H1⟩ := A1.out _ _ _ _ _ (by first | exact b_alloc bwr.out _ | exact b_alloc (b_alloc bwr.out _) _ | exact b_alloc (b_alloc (b_alloc bwr.out _) _) _) (by omega) ho hu hat
             clear ho hu hat
             have hs1 := B1.out.size
             first
             | ((refine (have Z1 : Hid (w1.heap[wr.heap.size]? = some (.cells #[.int .u16 0, .slice none 0 0, .slice none 0 0] 76 (0, 0))) := ?_; ?_); (· (refine (U1.out.block _ ?_ ?_).trans ?_; (· (first | (simp; done) | (simp; omega))); (· (intro hh; have hh2 : _ = _ := hh; omega)); (· (first | (refine alloc_at _ ?_; first | (simp; done) | (simp; omega)) | (refine heap_alloc_old (alloc_at _ ?_); first | (simp; done) | (simp; omega)) | (refine heap_alloc_old (heap_alloc_old (alloc_at _ ?_)); simp; done)))))); obtain ⟨⟨z0, z1, z2⟩, y0, y1, y2⟩ := cells3 Z1.out)
             | ((refine (have Z1 : Hid (w1.heap[wr.heap.size + 1]? = some (.cells #[.int .u16 0, .slice none 0 0, .slice none 0 0] 76 (0, 0))) := ?_; ?_); (· (refine (U1.out.block _ ?_ ?_).trans ?_; (· (first | (simp; done) | (simp; omega))); (· (intro hh; have hh2 : _ = _ := hh; omega)); (· (first | (refine alloc_at _ ?_; first | (simp; done) | (simp; omega)) | (refine heap_alloc_old (alloc_at _ ?_); first | (simp; done) | (simp; omega)) | (refine heap_alloc_old (heap_alloc_old (alloc_at _ ?_)); simp; done)))))); obtain ⟨⟨z0, z1, z2⟩, y0, y1, y2⟩ := cells3 Z1.out)
             | ((refine (have Z1 : Hid (w1.heap[wr.heap.size + 2]? = some (.cells #[.int .u16 0, .slice none 0 0, .slice none 0 0] 76 (0, 0))) := ?_; ?_); (· (refine (U1.out.block _ ?_ ?_).trans ?_; (· (first | (simp; done) | (simp; omega))); (· (intro hh; have hh2 : _ = _ := hh; omega)); (· (first | (refine alloc_at _ ?_; first | (simp; done) | (simp; omega)) | (refine heap_alloc_old (alloc_at _ ?_); first | (simp; done) | (simp; omega)) | (refine heap_alloc_old (heap_alloc_old (alloc_at _ ?_)); simp; done)))))); obtain ⟨⟨z0, z1, z2⟩, y0, y1, y2⟩ := cells3 Z1.out)
             | have Z1 : Hid True := Lib.hid trivial))
        all_goals
          clear OWN NIL LEN ONE NEWS A1
          go_wp2_with (fail)
          go_meet
          first
            | exact ⟨_, _, _, rfl, C4.fresh B1.out R1.out⟩
            | exact ⟨_, _, _, rfl, C4.stored B1.out (by omega) Z1.out R1.out⟩
      case rest =>
        obtain ⟨X, g2, cap2, rfl, hC⟩ := hcut
        clear OWN NIL ONE NEWS A1 bwr
        obtain ⟨w0, hw0⟩ : ∃ w0 : World, w0 = wr := ⟨_, rfl⟩
        subst hw0
        obtain ⟨wq, hwq⟩ : ∃ wq : World, wq = wc := ⟨_, rfl⟩
        subst hwq
        have hXl := hC.out.base
        have hXb := hC.out.box
        have hXs := heap_lt hXb
        have IR0 : Hid (IP wq wq X a (.slice none 0 0) (.slice (some ⟨g2, 0, none⟩) n cap2) []) := ⟨Upd.refl _ _, hXb, World.ownsRow_nil _ _ _ _⟩
        obtain ⟨Xs, hXs'⟩ : ∃ Xs : List FI, Xs = x.instrs := ⟨_, rfl⟩
        have HXS := Lib.hid hXs'
        have MX : Hid (m = Xs.length) := by rw [HXS.out]; exact HM.out
        clear hXs' hXb c0 c1 c2
        go_wp2_with (fail)
        go_loopw [6] (fun i w6 => ∃ (j : Nat) (vi : Value), i = .int .i64 j ∧ j ≤ m ∧ Hid (IP wq w6 X a vi (.slice (some ⟨g2, 0, none⟩) n cap2) (Xs.take j))) (fun i _ => m - (intOf i).toNat)
        case atStart => exact ⟨0, _, rfl, Nat.zero_le _, IR0⟩
        case round =>
          obtain ⟨j, vi, rfl, hj, hI⟩ := hrel
          have hb6 : Below w0.heap.size w0 wr := hC.out.below.trans (hI.out.upd.below (by have := hC.out.below.size; omega) (fun i hi => by omega))
          have HW6 := Lib.hid (HW.out.below hb6)
          have hs6 := hI.out.upd.size
          have c1 := HW6.out.c1
          rw [← HM.out] at c1
          obtain ⟨⟨x0, x1, x2⟩, y0, y1, y2⟩ := cells3 hI.out.box
          obtain ⟨Ai, ci, rfl⟩ := ownsRow_slice hI.out.row
          by_cases hjm : j < m
          · have hjl : j < x.instrs.length := by rw [← HM.out]; exact hjm
            obtain ⟨bi, oi, rfl, d0, d1, d2, d3, d4⟩ := HW6.out.ins.at_ j hjl
            have e0 : (⟨bi, oi, none⟩ : Addr).block < wr.heap.size := World.block_lt_of_cell? _ ⟨bi, oi + j * 5, none⟩ d0
            obtain ⟨q, hq⟩ : ∃ q, q = x.instrs[j] := ⟨_, rfl⟩
            rw [← hq] at d0 d1 d2 d3 d4
            have HQ := Lib.hid hq
            clear hq
            have hj0 : (0 : Int) ≤ (j : Int) := Int.natCast_nonneg _
            have hj1 : (j : Int) < (m : Int) := by omega
            have TJ := Lib.hid (show (Xs.take j).length = j by
              have h1 := MX.out
              rw [List.length_take]; omega)
            have RO := Lib.hid (show wr.ownsRow wq.heap.size 91 5 (.slice Ai (Xs.take j).length ci) (Xs.take j).length ((Xs.take j).flatMap FI.cells) from hI.out.row)
            rw [TJ.out] at RO x1
            have OX : Hid (∀ k, (Value.slice Ai j ci).ownBlock = some k → k < wr.heap.size ∧ wq.heap.size ≤ k) := by
              have h1 := ownsRow_own hI.out.row
              rw [TJ.out] at h1
              exact h1
            have BX : Hid (∀ (o o' : Obj) (w3 : World), ((wr.alloc o).alloc o').grownBy w3 (Value.slice Ai j ci).ownBlock → w3.heap[X]? = some (.cells #[.int .u16 a, .slice Ai j ci, .slice (some ⟨g2, 0, none⟩) n cap2] 76 (0, 0)) ∧ Hid (Upd wr w3 (fun i => wq.heap.size ≤ i))) := by
              intro o o' w3 hg
              have hu := Upd.of_grown hg
              have h2 := hI.out.box
              rw [TJ.out] at h2
              refine ⟨(hu.block X (by simp; omega) (fun e => by have := (OX.out X e.symm).2; omega)).trans (heap_alloc_old (heap_alloc_old h2)), ?_⟩
              exact (((Upd.refl wr _).alloc o).alloc o').trans hu (fun i hi e => (OX.out i e.symm).2)
            have hXl2 := heap_lt hI.out.box
            have xa : ∀ o, (wr.alloc o).cell? ⟨X, 1, none⟩ = some (.slice Ai j ci) := fun o => cell_alloc_old x1
            have HI := Lib.hid hI.out
            clear hI
            have xa := xa (.cells #[.int .u16 q.at_, .int .i64 q.op, .int .u16 q.operand, .int .u16 q.word, .int .u16 q.next] 60)
            go_wp2_with (first
              | (at_builtin; refine wpList_append_own_at _ rfl _ _ 74 rfl wq.heap.size 91 i1 _ 5 24 Tryd.underlying74 hi1 hy0 hy1 hy2 rfl (by decide) (.slice Ai j ci) j _ rfl ((RO.out.alloc _).alloc _) ⟨wr.heap.size + 1, 0, none⟩ 1 1 [.int .u16 q.at_, .int .i64 q.op, .int .u16 q.operand, .int .u16 q.word, .int .u16 q.next] rfl rfl ?hnews ?hone (by simp only [maxLen]; omega) (by omega) (by simp; omega) ?_; (case hnews => exact news5 _ (alloc_at _ (by simp))); (case hone => intro u hu; simp at hu; rcases hu with rfl | rfl | rfl | rfl | rfl <;> rfl); intro v' w3 ho hgr _ hat; obtain ⟨g3, cap3, rfl⟩ := ownsRow_succ ho; obtain ⟨bx, U3⟩ := BX.out _ _ _ hgr; have BX3 := Lib.hid bx; obtain ⟨⟨t0, t1, t2⟩, s0, s1, s2⟩ := cells3 bx; have R3 := Lib.hid ho; clear bx xa x0 x1 x2 y0 y1 y2 d0 d1 d2 d3 d4 c1 ho hgr hat))
            have fin : Hid (IP wq (w3.setCell ⟨X, 1, none⟩ (.slice (some ⟨g3, 0, none⟩) (j + 1) cap3)) X a (.slice (some ⟨g3, 0, none⟩) (j + 1) cap3) (.slice (some ⟨g2, 0, none⟩) n cap2) (Xs.take (j + 1))) := by
              have hjX : j < Xs.length := by have := MX.out; omega
              have e1 : Xs.take (j + 1) = Xs.take j ++ [q] := by
                rw [HQ.out, ← List.take_append_getElem hjX]
                congr 2
                simp only [HXS.out]
              have q1 := ownsRow_some R3.out
              refine ⟨(HI.out.upd.trans U3.out (fun i hi e => by omega)).setCell (fun _ => rfl) _, heap_set_cell BX3.out 1 _, ?_⟩
              have h1 := ownsRow_keep (W := w3.setCell ⟨X, 1, none⟩ (.slice (some ⟨g3, 0, none⟩) (j + 1) cap3)) R3.out (fun k hk => by
                have : g3 = k := by simpa [Value.ownBlock] using hk
                subst this
                exact heap_set_far (by omega))
              rw [e1, List.length_append, TJ.out, List.flatMap_append]
              exact h1
            go_roundw
            case rel => exact ⟨j + 1, _, by go_num, by omega, fin.out⟩
            case measure => first | (simp [intOf]; done) | (simp [intOf]; omega)
          · have hje : j = m := by omega
            have XT := Lib.hid (show Xs.take j = Xs by
              have h1 := MX.out
              exact List.take_of_length_le (by omega))
            have XL := Lib.hid (show (Xs.take j).length = m by rw [XT.out]; exact MX.out.symm)
            rw [XL.out] at x1
            have hj1 : decide ((j : Int) < (m : Int)) = false := by simp; omega
            have R0 := Lib.hid (show wr.ownsRow wq.heap.size 91 5 (.slice Ai m ci) m (Xs.flatMap FI.cells) by
              have h1 := hI.out.row
              rw [XT.out, ← MX.out] at h1
              exact h1)
            have B0 := Lib.hid (show wr.heap[X]? = some (.cells #[.int .u16 a, .slice Ai m ci, .slice (some ⟨g2, 0, none⟩) n cap2] 76 (0, 0)) by
              have h1 := hI.out.box
              rw [XL.out] at h1
              exact h1)
            have U0 := Lib.hid hI.out.upd
            have OX := Lib.hid (fun k hk => ownsRow_own R0.out k hk)
            have hXl2 := heap_lt hI.out.box
            have hbw : Below w0.heap.size w0 wr := hb6
            have q2 := ownsRow_some hC.out.row
            have hne := hC.out.ne
            have hs0 := hC.out.below.size
            have hs1 := U0.out.size
            have hav : 0 ≤ a ∧ a < 65536 := by rw [HA.out]; exact ⟨HW.out.at0, HW.out.at1⟩
            obtain ⟨t, ht⟩ : ∃ t : WT, t = ⟨⟨a.toNat, by omega⟩, Ai, m, ci, some ⟨g2, 0, none⟩, n, cap2⟩ := ⟨_, rfl⟩
            have tc : t.cells = [.int .u16 a, .slice Ai m ci, .slice (some ⟨g2, 0, none⟩) n cap2] := by
              rw [ht]
              show [Value.int .u16 ((a.toNat : Nat) : Int), _, _] = _
              rw [Int.toNat_of_nonneg hav.1]; rfl
            have tb : t.blks = (Value.slice Ai m ci).ownBlock.toList ++ [g2] := by rw [ht]; rfl
            have nb : t.blks.Nodup := by
              rw [tb]
              refine List.nodup_append.2 ⟨by cases (Value.slice Ai m ci).ownBlock <;> simp, by simp, fun x hx y hy e => ?_⟩
              have h1 := OX.out x (by simpa using hx)
              have h2 : y = g2 := by simpa using hy
              omega
            have CW : Hid (CpW wr w0.heap.size t x) := by
              refine ⟨?_, by rw [ht]; exact HM.out, by rw [ht]; exact HNN.out, ?_, ?_⟩
              · rw [ht]
                show ((a.toNat : Nat) : Int) = x.at_
                rw [Int.toNat_of_nonneg hav.1]; exact HA.out
              · rw [ht]
                have h1 := R0.out
                rw [HXS.out] at h1
                rw [← HM.out]
                exact ownsRow_lower h1 hs0
              · rw [ht]
                have h1 := hC.out.row
                unfold RowU
                rw [← HNN.out, ← HL.out]
                refine ownsRow_keep h1 (fun k hk => ?_)
                have : g2 = k := by
                  have hk' : (some g2 : Option Nat) = some k := hk
                  exact Option.some.inj hk'
                subst this
                exact U0.out.block g2 (by omega) (by omega)
            have TC := Lib.hid tc
            have NB := Lib.hid nb
            have REL := Lib.hid hrel.out
            obtain ⟨⟨t0, t1, t2⟩, s0, s1, s2⟩ := cells3 B0.out
            have RW : Hid ((wr.alloc (.cells #[.int .u16 a, .slice Ai m ci, .slice (some ⟨g2, 0, none⟩) n cap2] 76)).ownsRow w.heap.size 76 3 u3 k (ts.flatMap WT.cells)) := by
              have h1 := REL.out.row.move (W := wr) (fun i hi => hbw.block i (REL.out.row.own i hi).1)
              unfold RowX at h1
              rw [← HK.out] at h1
              exact h1.alloc _
            have hsw := REL.out.below.size
            have HBW := Lib.hid hbw
            have FIN : Hid (∀ (v' : Value) (w3 : World), (wr.alloc (.cells #[.int .u16 a, .slice Ai m ci, .slice (some ⟨g2, 0, none⟩) n cap2] 76)).grownBy w3 u3.ownBlock → w3.ownsRow w.heap.size 76 3 v' (k + 1) (ts.flatMap WT.cells ++ [.int .u16 a, .slice Ai m ci, .slice (some ⟨g2, 0, none⟩) n cap2]) →
                (v'.ownBlock = u3.ownBlock ∨ v'.ownBlock = some (wr.alloc (.cells #[.int .u16 a, .slice Ai m ci, .slice (some ⟨g2, 0, none⟩) n cap2] 76)).heap.size) → CpRel w w3 v' (ts ++ [t]) ws) := by
              intro v' w3 hg ho hat
              have hk2 : ts.length < ws.length := by rw [← HK.out, ← HN.out]; exact hlt
              refine REL.out.step (w2 := wr.alloc (.cells #[.int .u16 a, .slice Ai m ci, .slice (some ⟨g2, 0, none⟩) n cap2] 76)) hk2 (b_alloc HBW.out _) ?_ NB.out (Upd.of_grown hg) ?_ (hat.imp id (fun e => ⟨_, e, Nat.le_refl _⟩))
              · have e : ws[ts.length] = x := by rw [HX.out]; simp only [HK.out]
                rw [e]
                exact CW.out.move (fun i hi => Below.heap_alloc _ _ _ (CW.out.lt i hi).1)
              · unfold RowX
                rw [List.length_append, List.flatMap_append, ← HK.out]
                simpa [TC.out] using ho
            clear hI hbw q2 tc tb ht hav CW hrel TC x0 x1 x2 y0 y1 y2 hb6
            go_wp2_with (first
              | (at_builtin; refine wpList_append_own_at _ rfl _ _ 36 rfl w.heap.size 76 i2 _ 3 56 Tryd.underlying36 hi2 hx0 hx1 hx2 rfl (by decide) u3 k _ rfl RW.out ⟨wr.heap.size, 0, none⟩ 1 1 [.int .u16 a, .slice Ai m ci, .slice (some ⟨g2, 0, none⟩) n cap2] rfl rfl ?hnews3 ?hone3 (by simp only [maxLen]; omega) (by omega) (by simp; omega) ?_; (case hnews3 => exact news3 _ (heap_alloc_at _ _)); (case hone3 => intro u hu; simp at hu; rcases hu with rfl | rfl | rfl <;> rfl); intro v' w3 ho hgr _ hat; have FN := Lib.hid (FIN.out v' w3 hgr ho hat); clear ho hgr hat))
            go_roundw
            case rel => exact ⟨ts ++ [t], by rw [List.length_append, ← HK.out]; simp; omega, by rw [List.length_append, ← HK.out]; go_num, FN⟩
            case measure => first | (simp [intOf]; done) | (simp [intOf]; omega)
    · have hke : k = N := by omega
      have hk7 : ¬ (k : Int) < (N : Int) := by omega
      obtain ⟨A3, c3, hu3⟩ := hrel.out.row.slice
      rw [← HK.out] at hu3
      subst hu3
      have FIN : Hid (PlnPost w ws (.returned (.slice A3 k c3)) wr) := by
        have e1 : k = ws.length := hke.trans HN.out
        have hr := hrel.out.row
        refine ⟨A3, c3, by rw [e1], hrel.out.below, fun i hi => ?_, fun e => ?_⟩
        · have h1 : i < ts.length := by rw [← HK.out, e1]; exact hi
          have q := hrel.out.rep i h1 hi
          obtain ⟨g, eg, c0, c1, c2⟩ := hr.at_ h1
          obtain ⟨b, off, ia, ic, ca, cc, _, wi⟩ := HF.out i hi
          rw [q.at_] at c0
          have r1 := q.ins
          have r2 := q.calls
          unfold WT.vi at c1 r1
          unfold WT.vc at c2 r2
          rw [q.il] at c1 r1
          rw [q.cl] at c2 r2
          refine ⟨g, 0, (ts[i]).ia, (ts[i]).ic, (ts[i]).ca, (ts[i]).cc, eg, wi.at0, wi.at1, by rw [Nat.zero_add]; exact c0, by rw [Nat.zero_add]; exact c1, by rw [Nat.zero_add]; exact c2, insIn_of_row r1 wi.ins.len, r2.atsIn wi.calls.len, wi.small, fun e => ?_⟩
          rcases r2.2 with ⟨e2, _⟩ | ⟨g', cap', cur, e2, _⟩
          · injection e2 with _ _ e4
          · injection e2 with e4 _ _
            rw [e] at e4; cases e4
        · subst e
          rcases hr.2 with ⟨e2, e3⟩ | ⟨g', cap', cur, e2, _⟩
          · cases e2
            exact ⟨by rw [← e1, HK.out, e3], rfl⟩
          · cases e2
      clear hrel hke
      go_wp2_with (fail)
      go_ret
      exact FIN.out
end Go.Proofs.YtabeljpnmmfpgaaDoor
