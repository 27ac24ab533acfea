/-
  All words: the walk of Words.
-/
import Derived.Test.YtabeljpnmmfpgaaDoorFlWordsB
namespace Go.Proofs.YtabeljpnmmfpgaaDoor
open Go.RowKit Go.MapKept Go.Maps Go.Sort
set_option linter.unusedVariables false
set_option linter.unusedSimpArgs false

theorem word_call (w : World) (A : Option Addr) (c : Nat) (code : List Int) (cw : Int) (bt : Nat) (T : List Int) (h : CodeIn w A code) (ht : Tab w) (hT : SetAt w bt T) (h0 : 0 ≤ cw) (h1 : cw < 65536) (hl : code.length ≤ 16384)
    (kw : Nat) (R : Except (Int × Int) FW) (hR : wordOf kw code T cw = some R) :
    Calls Tryd.prog 33 #[.slice A code.length c, .int .u16 cw, .map (some bt)] w fun e w' => WordPost w cw R e w' := by
  unfold wordOf at hR
  by_cases hc : cellOf code cw = some 1
  · rw [if_pos hc] at hR
    cases hw : wl code T kw [IntKind.u16.wrap (cw + 2)] [] [] with
    | none => rw [hw] at hR; cases hR
    | some r =>
      rw [hw] at hR
      cases hR
      refine word_any w A c code cw bt T h ht hT h0 h1 kw r hc hw (fun f cc e => ?_)
      subst e
      have := (wl_inv h.byte kw _ _ _ _ _ (WInv.start _ (wrap16_range _)) hw).lens
      unfold sortMax
      omega
  · rw [if_neg hc] at hR
    cases hR
    exact word_none w A c code cw bt h h0 h1 hc

/-- The world while the words are gone along. -/
structure WSt (w W : World) (cart : Array Value) (B1 : Nat) (o seen T : List Int) (v : Value) (ts : List WT) (acc : List FW) : Prop where
  below : Below w.heap.size w W
  box : W.heap[w.heap.size]? = some (.cells cart 27 (0, 0))
  res : W.heap[w.heap.size + 1]? = some (.cells #[.int .i64 0, .int .u16 0] 33 (0, 0))
  lo : w.heap.size + 1 < B1
  seen : SetAt W B1 seen
  taken : SetAt W (B1 + 1) T
  opn : SetAt W (B1 + 1 + 1) o
  words : WordsAt W (B1 + 1 + 1 + 1) v ts acc
theorem WordsAt.move {w W : World} {base : Nat} {v : Value} {ts : List WT} {ws : List FW} (h : WordsAt w base v ts ws) (hm : ∀ k, k < w.heap.size → base ≤ k → W.heap[k]? = w.heap[k]?) : WordsAt W base v ts ws :=
  ⟨h.row.move (fun k hk => hm k (h.row.own k hk).1 (h.row.own k hk).2), h.reps.move (fun k hk => hm k (h.reps.lt k hk).1 (h.reps.lt k hk).2), h.apart⟩
theorem WordsAt.lower {w : World} {base base' : Nat} {v : Value} {ts : List WT} {ws : List FW} (h : WordsAt w base v ts ws) (hb : base' ≤ base) : WordsAt w base' v ts ws :=
  ⟨h.row.lower hb, h.reps.lower hb, h.apart⟩
section
variable {w W W' : World} {cart : Array Value} {B1 : Nat} {o o' seen seen' T T' : List Int} {v : Value} {ts : List WT} {acc : List FW}
theorem WSt.size (h : WSt w W cart B1 o seen T v ts acc) : B1 + 1 + 1 < W.heap.size := MapAt.lt h.opn
theorem WSt.bel (h : WSt w W cart B1 o seen T v ts acc) (hb : Below W.heap.size W W') : WSt w W' cart B1 o seen T v ts acc := by
  have hs := h.size
  have hl := h.lo
  have k : ∀ i, i < W.heap.size → W'.heap[i]? = W.heap[i]? := fun i hi => hb.block i hi
  exact ⟨b_then h.below hb, (k _ (by omega)).trans h.box, (k _ (by omega)).trans h.res, hl, MapAt.move h.seen (k _ (by omega)), MapAt.move h.taken (k _ (by omega)), MapAt.move h.opn (k _ (by omega)), h.words.move (fun i hi _ => k i hi)⟩
theorem WSt.set_seen (h : WSt w W cart B1 o seen T v ts acc) (hu : Upd W W' (fun i => i = B1)) (hS : SetAt W' B1 seen') : WSt w W' cart B1 o seen' T v ts acc := by
  have hs := h.size
  have hl := h.lo
  have k : ∀ i, i < W.heap.size → i ≠ B1 → W'.heap[i]? = W.heap[i]? := fun i hi hn => hu.block i hi hn
  exact ⟨h.below.trans (hu.below (by omega) (fun i hi => by omega)), (k _ (by omega) (by omega)).trans h.box, (k _ (by omega) (by omega)).trans h.res, hl, hS, MapAt.move h.taken (k _ (by omega) (by omega)), MapAt.move h.opn (k _ (by omega) (by omega)), h.words.move (fun i hi hb => k i hi (by omega))⟩
theorem WSt.set_taken (h : WSt w W cart B1 o seen T v ts acc) (hu : Upd W W' (fun i => i = B1 + 1)) (hS : SetAt W' (B1 + 1) T') : WSt w W' cart B1 o seen T' v ts acc := by
  have hs := h.size
  have hl := h.lo
  have k : ∀ i, i < W.heap.size → i ≠ B1 + 1 → W'.heap[i]? = W.heap[i]? := fun i hi hn => hu.block i hi hn
  exact ⟨h.below.trans (hu.below (by omega) (fun i hi => by omega)), (k _ (by omega) (by omega)).trans h.box, (k _ (by omega) (by omega)).trans h.res, hl, MapAt.move h.seen (k _ (by omega) (by omega)), hS, MapAt.move h.opn (k _ (by omega) (by omega)), h.words.move (fun i hi hb => k i hi (by omega))⟩
theorem WSt.set_opn (h : WSt w W cart B1 o seen T v ts acc) (hu : Upd W W' (fun i => i = B1 + 1 + 1)) (hS : SetAt W' (B1 + 1 + 1) o') : WSt w W' cart B1 o' seen T v ts acc := by
  have hs := h.size
  have hl := h.lo
  have k : ∀ i, i < W.heap.size → i ≠ B1 + 1 + 1 → W'.heap[i]? = W.heap[i]? := fun i hi hn => hu.block i hi hn
  exact ⟨h.below.trans (hu.below (by omega) (fun i hi => by omega)), (k _ (by omega) (by omega)).trans h.box, (k _ (by omega) (by omega)).trans h.res, hl, MapAt.move h.seen (k _ (by omega) (by omega)), MapAt.move h.taken (k _ (by omega) (by omega)), hS, h.words.move (fun i hi hb => k i hi (by omega))⟩
end
theorem infoWord : (Tryd.prog.info? 53).map (fun i => (i.zero, i.size, i.bytes)) = some (some (.agg #[(.int .u16 0), (.slice none 0 0), (.slice none 0 0)]), 3, 56) := by kernel_rfl

set_option maxRecDepth 100000 in
set_option maxHeartbeats 4000000 in
/-- A cartridge that may not be. -/
theorem words_bad (w : World) (A : Option Addr) (n c : Nat) (en : Int) (Ae : Option Addr) (ce : Nat) (E : List (Int × Int × Int)) (Ab : Option Addr) (cb : Nat) (B : List (Int × Nat)) (hn : n ≤ 1000000000000) (hE : EffsIn w Ae E) (hB : BanksIn w Ab B) (hok : cartOk n E B = false) :
    Calls Tryd.prog 11 #[.agg #[.slice A n c, .int .u16 en, .slice Ae E.length ce, .slice Ab B.length cb]] w fun e w' => WordsPost w (.error (74, 0)) e w' := by
  have start := Lib.hid (show Below w.heap.size w (World.alloc (World.alloc w (.cells #[.slice A n c, .int .u16 en, .slice Ae E.length ce, .slice Ab B.length cb] 27)) (.cells #[.int .i64 0, .int .u16 0] 33)) from b_alloc (b_alloc (Below.refl _ _) _) _)
  have r0 := Lib.hid (show (World.alloc (World.alloc w (.cells #[.slice A n c, .int .u16 en, .slice Ae E.length ce, .slice Ab B.length cb] 27)) (.cells #[.int .i64 0, .int .u16 0] 33)).heap[w.heap.size + 1]? = some (.cells #[.int .i64 0, .int .u16 0] 33 (0, 0)) from alloc_at _ (by simp))
  have CK := Lib.hid (check_any _ A n c (.int .u16 en) Ae ce E Ab cb B hn (hE.below start.out) (hB.below start.out))
  have HOK := Lib.hid hok
  clear hE hB hok
  go_enter Tryd.func11, Tryd.ntmps11
  go_wp2_with (fail)
  refine CK.out.mono ?_
  rintro e W1 ⟨rfl, hb⟩
  have r1 := Lib.hid ((hb.block _ (heap_lt r0.out)).trans r0.out)
  have hb1 := Lib.hid (b_then start.out hb)
  obtain ⟨⟨x3, x4⟩, y3, y4⟩ := cells2 r1.out
  rw [HOK.out]
  clear hb
  go_wp2_with (fail)
  have f1 := heap_set_cell (heap_set_cell r1.out 0 (.int .i64 74)) 1 (.int .u16 0)
  obtain ⟨⟨g0, g1⟩, _⟩ := cells2 f1
  refine bodyPost_ret (v := .tuple #[.slice none 0 0, .agg #[.int .i64 74, .int .u16 0]]) (by simp [results, Tryd.results11, go_sem, g0, g1]) rfl ⟨?_, rfl⟩
  exact below_set1 (below_set1 hb1.out (by omega) _ _) (by omega) _ _

theorem wordOf_err {code T : List Int} {kw : Nat} {a z b : Int} (h : wordOf kw code T a = some (.error (z, b))) : z ≠ 0 := by
  have key : ∀ (k : Nat) (o : List Int) (f : List FI) (c : List Int), wl code T k o f c = some (.error (z, b)) → z ≠ 0 := by
    intro k
    induction k with
    | zero => intro o f c h; cases h
    | succ k ih =>
      intro o f c h
      cases o with
      | nil => unfold wl at h; cases h
      | cons a o =>
        unfold wl at h
        split at h
        · cases h; decide
        · split at h
          · rename_i h1 h2
            cases h; exact h2
          · exact ih _ _ _ h
  unfold wordOf at h
  split at h
  · cases hw : wl code T kw [IntKind.u16.wrap (a + 2)] [] [] with
    | none => rw [hw] at h; cases h
    | some r =>
      rw [hw] at h
      cases r with
      | error e =>
        obtain ⟨e1, e2⟩ := e
        cases h
        exact key _ _ _ _ hw
      | ok fc =>
        obtain ⟨f, c⟩ := fc
        simp only [Option.map_some, endOf] at h
        cases hcl : clash f with
        | some b => rw [hcl] at h; cases h; decide
        | none => rw [hcl] at h; cases h
  · cases h; decide
/-- The verdict is written. -/
theorem tail_ws {P : Program} {fn : Func} {Q : Ending → World → Prop} {act : Act} {w W : World} {b : Nat} {u3 u4 v3 v4 : Value} (h7 : W.heap[b]? = some (.cells #[v3, v4] 33 (0, 0))) (hb : w.heap.size ≤ b) (hB : Below w.heap.size w W)
    (k : ∀ V, V.heap[b]? = some (.cells #[u3, u4] 33 (0, 0)) → Below w.heap.size w V → Upd W V (fun i => i = b) → bodyPost P fn Q Exit.ret act V) : bodyPost P fn Q Exit.ret act (World.setCell (World.setCell W ⟨b, 0, none⟩ u3) ⟨b, 1, none⟩ u4) :=
  k _ (heap_set_cell (heap_set_cell h7 0 u3) 1 u4) (below_set1 (below_set1 hB hb _ _) hb _ _) (((Upd.refl W (fun i => i = b)).setCell (p := ⟨b, 0, none⟩) (fun _ => rfl) _).setCell (p := ⟨b, 1, none⟩) (fun _ => rfl) _)
theorem tail_ws_d {P : Program} {fn : Func} {Q : Ending → World → Prop} {act : Act} {w W : World} {b : Nat} {u3 u4 v3 v4 : Value} (h7 : W.heap[b]? = some (.cells #[v3, v4] 33 (0, 0))) (hb : w.heap.size ≤ b) (hB : Below w.heap.size w W)
    (k : ∀ V, V.heap[b]? = some (.cells #[u3, u4] 33 (0, 0)) → Below w.heap.size w V → Upd W V (fun i => i = b) → bodyPost P fn Q Exit.ret act V) : bodyPost P fn Q Exit.ret act (World.drew (World.setCell (World.setCell W ⟨b, 0, none⟩ u3) ⟨b, 1, none⟩ u4)) := by
  have key : ∀ V : World, V.heap[b]? = some (.cells #[u3, u4] 33 (0, 0)) → Below w.heap.size w V → Upd W V (fun i => i = b) → bodyPost P fn Q Exit.ret act V.drew := fun V a c d => k V.drew a c.drew d.drew
  exact key _ (heap_set_cell (heap_set_cell h7 0 u3) 1 u4) (below_set1 (below_set1 hB hb _ _) hb _ _) (((Upd.refl W (fun i => i = b)).setCell (p := ⟨b, 0, none⟩) (fun _ => rfl) _).setCell (p := ⟨b, 1, none⟩) (fun _ => rfl) _)
/-- A word appended. -/
theorem WSt.add {w W W' : World} {cart : Array Value} {B1 : Nat} {o seen T : List Int} {v : Value} {ts : List WT} {acc : List FW} {t : WT} {x : FW} {ob : Obj} {g' cap' n : Nat} (h : WSt w W cart B1 o seen T v ts acc) (hn : n = ts.length) (hrep : WRep W (B1 + 1 + 1 + 1) t x)
    (hnew : ∀ k ∈ t.blks, k ∉ v.ownBlock.toList ++ blks ts) (hnd : t.blks.Nodup) (hgr : World.grownBy (W.alloc ob) W' v.ownBlock)
    (ho : W'.ownsRow (B1 + 1 + 1 + 1) 53 3 (.slice (some ⟨g', 0, none⟩) (n + 1) cap') (n + 1) ((ts.flatMap WT.cells) ++ t.cells)) (hat : some g' = v.ownBlock ∨ W.heap.size ≤ g') :
    WSt w W' cart B1 o seen T (.slice (some ⟨g', 0, none⟩) (n + 1) cap') (ts ++ [t]) (acc ++ [x]) := by
  have hs := h.size
  have hl := h.lo
  have e1 : (W.alloc ob).heap.size = W.heap.size + 1 := by simp
  have kb : ∀ i, i < W.heap.size → v.ownBlock ≠ some i → W'.heap[i]? = W.heap[i]? := fun i hi hn => (hgr.block i (by omega) (fun e => hn e.symm)).trans (Below.heap_alloc _ _ _ hi)
  have nb : ∀ i, i < B1 + 1 + 1 + 1 → v.ownBlock ≠ some i := fun i hi e => by have := (h.words.row.own i e).2; omega
  have hap := List.nodup_append.1 h.words.apart
  refine ⟨?_, (kb _ (by omega) (nb _ (by omega))).trans h.box, (kb _ (by omega) (nb _ (by omega))).trans h.res, hl, MapAt.move h.seen (kb _ (by omega) (nb _ (by omega))), MapAt.move h.taken (kb _ (by omega) (nb _ (by omega))), MapAt.move h.opn (kb _ (by omega) (nb _ (by omega))), ?_, ?_, ?_⟩
  · have hb2 := b_alloc h.below ob
    exact hb2.grown hgr hb2.size (fun k hk => by have := (h.words.row.own k hk).2; omega)
  · unfold RowW
    rw [show (ts ++ [t]).length = n + 1 by simp [hn], List.flatMap_append]
    simpa using ho
  · refine Reps.snoc (h.words.reps.move (fun k hk => kb k (h.words.reps.lt k hk).1 (fun e => hap.2.2 k (by simp [e]) k hk rfl))) (hrep.move (fun k hk => kb k (hrep.lt k hk).1 (fun e => hnew k hk (by simp [e]))))
  · have eb : blks (ts ++ [t]) = blks ts ++ t.blks := by unfold blks; simp
    have eo : (Value.slice (some ⟨g', 0, none⟩) (n + 1) cap').ownBlock.toList = [g'] := rfl
    rw [eb, eo, List.singleton_append, List.nodup_cons]
    constructor
    · intro hm
      rcases hat with hat | hat
      · rcases List.mem_append.1 hm with hm | hm
        · exact hap.2.2 g' (by simp [← hat]) g' hm rfl
        · exact hnew g' hm (by simp [← hat])
      · rcases List.mem_append.1 hm with hm | hm
        · have := (h.words.reps.lt g' hm).1; omega
        · have := (hrep.lt g' hm).1; omega
    · rw [List.nodup_append]
      refine ⟨hap.2.1, hnd, fun a ha b hb e => ?_⟩
      subst e
      exact hnew a hb (by simp [ha])
theorem new_block1 {W : World} {v : Value} {g n c : Nat} {o1 : Obj} (h : (Value.slice (some ⟨g, 0, none⟩) n c).ownBlock = v.ownBlock ∨ (Value.slice (some ⟨g, 0, none⟩) n c).ownBlock = some (World.alloc W o1).heap.size) : some g = v.ownBlock ∨ W.heap.size ≤ g := by
  rcases h with h | h
  · exact .inl h
  · right
    have e : g = (World.alloc W o1).heap.size := Option.some.inj h
    rw [e]; simp
theorem news3 (W : World) {g : Nat} {v0 v1 v2 : Value} {t : TypeId} (h : W.heap[g]? = some (.cells #[v0, v1, v2] t (0, 0))) : ∀ (j : Nat) (u : Value), [v0, v1, v2][j]? = some u → W.cell? ((⟨g, 0, none⟩ : Addr).add j) = some u := by
  intro j u hu
  have e : (⟨g, 0, none⟩ : Addr).add j = ⟨g, j, none⟩ := by unfold Addr.add; split <;> simp_all
  rw [e, cell_of h j]
  simpa using hu

theorem setAt_put {W W' : World} {b : Nat} {S : List Int} {x : Int} (h : SetAt W b S) (m1 : MapAt W' b (fun j => if j = x then some (.bool true) else setFn S j)) : SetAt W' b (ins x S) := h.put_ m1
theorem setAt_put_end {W W' : World} {b : Nat} {S : List Int} {x : Int} (h : SetAt W b S) (m1 : MapAt W' b (fun j => if j = x then some (.bool true) else setFn S j)) : SetAt W' b (S ++ [x]) :=
  (h.put_ m1).same (fun n => by rw [mem_ins]; simp [or_comm])

set_option maxRecDepth 100000 in
set_option maxHeartbeats 8000000 in
theorem words_good (w : World) (A : Option Addr) (c : Nat) (code : List Int) (en : Int) (Ae : Option Addr) (ce : Nat) (E : List (Int × Int × Int)) (Ab : Option Addr) (cb : Nat) (B : List (Int × Nat)) (h : CodeIn w A code) (ht : Tab w) (hE : EffsIn w Ae E) (hB : BanksIn w Ab B) (h0 : 0 ≤ en) (h1 : en < 65536)
    (kw k : Nat) (R : Except (Int × Int) (List FW)) (hok : cartOk code.length E B = true) (hr : wsl code kw k [en] [] [] [] = some R) :
    Calls Tryd.prog 11 #[.agg #[.slice A code.length c, .int .u16 en, .slice Ae E.length ce, .slice Ab B.length cb]] w fun e w' => WordsPost w (sortR R) e w' := by
  have hl : code.length ≤ 16384 := by
    unfold cartOk at hok
    simp at hok
    omega
  obtain ⟨cart, hcart⟩ : ∃ cart, cart = (#[.slice A code.length c, .int .u16 en, .slice Ae E.length ce, .slice Ab B.length cb] : Array Value) := ⟨_, rfl⟩
  have HCART := Lib.hid hcart
  have start := Lib.hid (show Below w.heap.size w (World.alloc (World.alloc w (.cells #[.slice A code.length c, .int .u16 en, .slice Ae E.length ce, .slice Ab B.length cb] 27)) (.cells #[.int .i64 0, .int .u16 0] 33)) from b_alloc (b_alloc (Below.refl _ _) _) _)
  have r0 := Lib.hid (show (World.alloc (World.alloc w (.cells #[.slice A code.length c, .int .u16 en, .slice Ae E.length ce, .slice Ab B.length cb] 27)) (.cells #[.int .i64 0, .int .u16 0] 33)).heap[w.heap.size + 1]? = some (.cells #[.int .i64 0, .int .u16 0] 33 (0, 0)) from alloc_at _ (by simp))
  have r9 := Lib.hid (show (World.alloc (World.alloc w (.cells #[.slice A code.length c, .int .u16 en, .slice Ae E.length ce, .slice Ab B.length cb] 27)) (.cells #[.int .i64 0, .int .u16 0] 33)).heap[w.heap.size]? = some (.cells cart 27 (0, 0)) from by rw [hcart]; exact heap_alloc_old (heap_alloc_at _ _))
  have CK := Lib.hid (check_any _ A code.length c (.int .u16 en) Ae ce E Ab cb B (by omega) (hE.below start.out) (hB.below start.out))
  have HOK := Lib.hid hok
  have HC := Lib.hid h
  have HT := Lib.hid ht
  have HR := Lib.hid hr
  have HB := Lib.hid h.byte
  have hmm := @run_makeMap Tryd.prog
  clear hE hB hok h ht hr hcart
  go_enter Tryd.func11, Tryd.ntmps11
  go_wp2_with (fail)
  refine CK.out.mono ?_
  rintro e W1 ⟨rfl, hb⟩
  have r1 := Lib.hid ((hb.block _ (heap_lt r0.out)).trans r0.out)
  have r2 := Lib.hid ((hb.block _ (heap_lt r9.out)).trans r9.out)
  have hb1 := Lib.hid (b_then start.out hb)
  have hsz := Lib.hid (show w.heap.size + 1 < W1.heap.size from Nat.lt_of_lt_of_le (by simp) hb.size)
  have b1 : W1.cell? ⟨w.heap.size, 1, none⟩ = some (.int .u16 en) := by rw [cell_of r2.out, HCART.out]; rfl
  have b2 := cell_alloc_old (o := .map #[] 0) b1
  have b3 := cell_alloc_old (o := .map #[] 0) b2
  have b4 := cell_alloc_old (o := .map #[] 0) b3
  rw [HOK.out]
  clear hb CK
  go_wp2_with (first
    | (refine wpList_map_ins rfl (.tmp 24) (.tmp 26) (.const (.bool true)) 80 rfl 23 4 Tryd.underlying80 Tryd.underlying23 (W1.heap.size + 1 + 1) (fun _ => none) rfl (fresh_map ?hsz2) _ ⟨h0, h1⟩ _ rfl rfl ?_; (case hsz2 => simp; done); intro w1 m1 m2; have M1 := Lib.hid (show MapAt w1 (W1.heap.size + 1 + 1) (fun j => if j = en then some (.bool true) else none) from m1); have M2 := Lib.hid m2; clear m1 m2))
  have START : Hid (WSt w w1 cart W1.heap.size [en] [] [] (.slice none 0 0) [] []) := by
    have e0 := heap_alloc_old (o' := .map #[] 0) (heap_alloc_old (o' := .map #[] 0) (alloc_at (W := W1) (n := W1.heap.size) (.map #[] 0) rfl))
    have e1 := heap_alloc_old (o' := .map #[] 0) (alloc_at (W := World.alloc W1 (.map #[] 0)) (n := W1.heap.size + 1) (.map #[] 0) (by simp))
    have hB3 : Below W1.heap.size W1 (World.alloc (World.alloc (World.alloc W1 (.map #[] 0)) (.map #[] 0)) (.map #[] 0)) := b_alloc (b_alloc (b_alloc (Below.refl _ _) _) _) _
    have s := hsz.out
    refine ⟨b_then hb1.out (hB3.trans (M2.out.below hB3.size (fun i hi => by omega))), M2.out.keep ((hB3.block _ (by omega)).trans r2.out) (by omega), M2.out.keep ((hB3.block _ (by omega)).trans r1.out) (by omega), s, ?_, ?_, MapAt.ext M1.out (fun n => by simp [setFn]), ?_⟩
    · exact MapAt.ext (f := fun _ => none) ⟨⟨_, _, M2.out.keep e0 (by omega), IMap.empty _⟩, fun _ _ h => by cases h⟩ (fun n => by simp [setFn])
    · exact MapAt.ext (f := fun _ => none) ⟨⟨_, _, M2.out.keep e1 (by omega), IMap.empty _⟩, fun _ _ h => by cases h⟩ (fun n => by simp [setFn])
    · exact ⟨World.ownsRow_nil _ _ _ _, trivial, by simp [Value.ownBlock, blks]⟩
  have SI : Hid (SInv code [en] [] [] []) := SInv.start code en ⟨h0, h1⟩
  have B1sz : w.heap.size + 1 < W1.heap.size := hsz.out
  clear M1 M2 b1 b2 b3 b4 r1 r2 hb1 hsz
  generalize W1.heap.size = B1 at *
  clear start r0 r9
  go_loopg [5] k (fun kq v W => ∃ (o seen T : List Int) (ts : List WT) (acc : List FW), Hid (wsl code kw kq o seen T acc = some R ∧ WSt w W cart B1 o seen T v ts acc ∧ SInv code o seen T acc ∧ (o = [] → acc ≠ [])))
  case atStart => exact ⟨_, _, _, _, _, HR.out, START.out, SI.out, fun h => by cases h⟩
  case round =>
    obtain ⟨o, seen, T, ts, acc, hh⟩ := hrel
    clear START SI
    cases gk with
    | zero => exact absurd hh.out.1 (by simp [wsl])
    | succ k1 =>
      obtain ⟨es, clk, hb13, hs1, hs2⟩ := MapAt.size hh.out.2.1.opn
      have hlen := MapAt.len (P := Tryd.prog) hb13 (t := 80) Tryd.underlying80 3
      cases o with
      | nil =>
        have hre : R = .ok acc := by
          have := hh.out.1
          unfold wsl at this
          exact (Option.some.inj this).symm
        subst hre
        have h00 : es.size = 0 := hs2.2 (fun n => by simp [setFn])
        rw [h00] at hlen
        have W0 := Lib.hid hh.out.2.1
        have NE := Lib.hid (hh.out.2.2.2 rfl)
        have ND := Lib.hid hh.out.2.2.1.nd
        have hts : ts.length ≤ 16384 := by
          have e1 := hh.out.2.1.words.reps.len
          have e2 := hh.out.2.2.1.lens
          omega
        obtain ⟨g, cap, rfl, hg⟩ : ∃ g cap, u5 = .slice (some ⟨g, 0, none⟩) ts.length cap ∧ B1 + 1 + 1 + 1 ≤ g := by
          rcases hh.out.2.1.words.row.2 with ⟨_, hn⟩ | ⟨g, cap, cur, e, hg, _⟩
          · have := hh.out.2.1.words.reps.len
            exact absurd (List.eq_nil_of_length_eq_zero (by omega)) NE.out
          · exact ⟨g, cap, e, hg⟩
        have SO := Lib.hid (sortW_any wr (B1 + 1 + 1 + 1) g ts.length cap ts W0.out.words.row (by omega))
        clear hs1 hs2 hb13 h00 hh
        go_wp2_with (fail)
        refine SO.out.mono ?_
        rintro e W5 ⟨rfl, q1⟩
        obtain ⟨ts', wa, hu⟩ := W0.out.words.sorted q1 ND.out
        have hlo := W0.out.lo
        have hgo : (Value.slice (some ⟨g, 0, none⟩) ts.length cap).ownBlock = some g := rfl
        have R5 : Hid (W5.heap[w.heap.size + 1]? = some (.cells #[.int .i64 0, .int .u16 0] 33 (0, 0))) := hu.keep W0.out.res (by rw [hgo]; intro e; have := Option.some.inj e; omega)
        have B5 : Hid (Below w.heap.size w W5) := W0.out.below.trans (hu.below W0.out.below.size (fun i hi => by rw [hgo] at hi; have := Option.some.inj hi; omega))
        have WA := Lib.hid wa
        obtain ⟨⟨z3, z4⟩, z5, z6⟩ := cells2 R5.out
        clear q1 wa hu hgo SO
        go_wp2_with (fail)
        refine tail_ws R5.out (by omega) B5.out ?_
        intro V g7 hB hU
        obtain ⟨⟨m3, m4⟩, _⟩ := cells2 g7
        refine bodyPost_ret (v := .tuple #[.slice (some ⟨g, 0, none⟩) ts.length cap, .agg #[.int .i64 0, .int .u16 0]]) (by simp [results, Tryd.results11, go_sem, m3, m4]) rfl ⟨hB, _, ts', rfl, ?_⟩
        exact (WA.out.move (fun k hk hb => hU.block k hk (by omega))).lower (by omega)
      | cons a o' =>
        have hpos : (0 : Int) < (es.size : Int) := by
          rcases Nat.eq_zero_or_pos es.size with e | e
          · have := hs2.1 e a; simp [setFn] at this
          · omega
        have least := Lib.hid (least_any wr _ a o' hh.out.2.1.opn (List.pairwise_cons.1 hh.out.2.2.1.os).1)
        have ha := hh.out.2.2.1.orange a List.mem_cons_self
        obtain ⟨a0, a1⟩ := ha
        obtain ⟨r, hr⟩ : ∃ r, wordOf kw code T a = some r := by
          have := hh.out.1
          unfold wsl at this
          cases hw : wordOf kw code T a with
          | none => rw [hw] at this; cases this
          | some r => exact ⟨r, rfl⟩
        have HW := Lib.hid hr
        have WC : Hid (∀ W, WSt w W cart B1 o' (ins a seen) T u5 ts acc → Calls Tryd.prog 33 #[.slice A code.length c, .int .u16 a, .map (some (B1 + 1))] W fun e w' => WordPost W a r e w') := fun W st =>
          word_call W A c code a (B1 + 1) T (HC.out.below st.below) (HT.out.below st.below) st.taken a0 a1 hl kw r HW.out
        clear hs1 hs2 hb13 hr
        cases r with
        | error ez =>
          obtain ⟨z, za⟩ := ez
          have hre : R = .error (z, za) := by
            have := hh.out.1
            unfold wsl at this
            rw [HW.out] at this
            exact (Option.some.inj this).symm
          subst hre
          have hz : (z != 0) = true := by simp; exact wordOf_err HW.out
          go_wp2_with (first
            | (go_at_call 32; refine least.out.mono ?_; rintro e W1 ⟨rfl, l1, l2⟩; have S1 := Lib.hid (hh.out.2.1.set_opn l2 l1); clear l1 l2)
            | (refine wpList_map_put rfl (.tmp 33) (.tmp 34) (.const (.bool true)) 80 rfl 23 4 Tryd.underlying80 Tryd.underlying23 B1 (setFn seen) rfl S1.out.seen _ ⟨a0, a1⟩ _ rfl rfl ?_; intro W2 m1 m2; have S2 := Lib.hid (S1.out.set_seen m2 (setAt_put S1.out.seen m1)); have x0 : W2.cell? ⟨w.heap.size, 0, none⟩ = some (.slice A code.length c) := (by rw [cell_of S2.out.box, HCART.out]; rfl); clear m1 m2)
            | (go_at_call 33; refine (WC.out W2 S2.out).mono ?_; rintro e W3 ⟨q1, q2⟩; have q3 : e = .returned (.tuple #[.agg #[.int .u16 0, .slice none 0 0, .slice none 0 0], .agg #[.int .i64 z, .int .u16 za]]) := q2; subst q3; have S3 := Lib.hid ((S2.out.bel q1).bel (b_alloc (b_alloc (Below.refl _ _) (.cells #[.int .u16 0, .slice none 0 0, .slice none 0 0] 53)) (.cells #[.int .i64 z, .int .u16 za] 33))); obtain ⟨⟨y0, y1⟩, y2, y3⟩ := cells2 S3.out.res; clear q1 q2 x0))
          go_region
          all_goals
            go_wp2_with (fail)
            refine tail_ws_d S3.out.res (by omega) S3.out.below ?_
            intro V g7 hB _
            obtain ⟨⟨m3, m4⟩, _⟩ := cells2 g7
            refine bodyPost_ret (v := .tuple #[.slice none 0 0, .agg #[.int .i64 z, .int .u16 za]]) (by simp [results, Tryd.results11, go_sem, m3, m4]) rfl ⟨hB, rfl⟩
        | ok x =>
          have NEXT : Hid (wsl code kw k1 (x.calls.foldl (pushW (ins a seen)) o') (ins a seen) (T ++ x.instrs.map FI.at_) (acc ++ [x]) = some R) := by
            have := hh.out.1
            unfold wsl at this
            rw [HW.out] at this
            exact this
          have XOK := Lib.hid (wordOf_ok HB.out HW.out)
          have TS0 : Hid (∀ W2 W3 vi vc, WSt w W2 cart B1 o' (ins a seen) T u5 ts acc → Below W2.heap.size W2 W3 → RowI W3 W2.heap.size vi x.instrs → RowU W3 W2.heap.size vc x.calls → (∀ k, vc.ownBlock = some k → vi.ownBlock ≠ some k) →
              ∃ t : WT, t.at_.val = a.toNat ∧ vi = t.vi ∧ vc = t.vc ∧ t.il = x.instrs.length ∧ t.cl = x.calls.length ∧ WRep W3 (B1 + 1 + 1 + 1) t x ∧ (∀ k ∈ t.blks, k ∉ u5.ownBlock.toList ++ blks ts) ∧ t.blks.Nodup) := by
            intro W2 W3 vi vc st hb ri rc ap
            have sz := st.size
            obtain ⟨ia, ic, rfl⟩ := ri.slice
            obtain ⟨ca, cc, rfl⟩ := rc.slice
            have rep : WRep W3 (B1 + 1 + 1 + 1) ⟨⟨a.toNat, by omega⟩, ia, x.instrs.length, ic, ca, x.calls.length, cc⟩ x := ⟨by show ((a.toNat : Nat) : Int) = x.at_; rw [XOK.out.2]; omega, ri.lower (by omega), rc.lower (by omega)⟩
            refine ⟨⟨⟨a.toNat, by omega⟩, ia, x.instrs.length, ic, ca, x.calls.length, cc⟩, rfl, rfl, rfl, rfl, rfl, rep, ?_, ?_⟩
            · intro k hk hk'
              have h1 : W2.heap.size ≤ k := by
                unfold WT.blks at hk
                rcases List.mem_append.1 hk with hk | hk
                · exact (ri.own k (Option.mem_toList.1 hk)).2
                · exact (rc.lt k (Option.mem_toList.1 hk)).2
              rcases List.mem_append.1 hk' with hk' | hk'
              · have := (st.words.row.own k (by simpa using hk')).1; omega
              · have := (st.words.reps.lt k hk').1; omega
            · unfold WT.blks
              rw [List.nodup_append]
              refine ⟨?_, ?_, ?_⟩
              · cases (WT.vi _).ownBlock <;> simp
              · cases (WT.vc _).ownBlock <;> simp
              · intro p hp q hq e
                subst e
                exact ap p (Option.mem_toList.1 hq) (Option.mem_toList.1 hp)
          have lx := Lib.hid XOK.out.1.inv.lens
          go_wp2_with (first
            | (go_at_call 32; refine least.out.mono ?_; rintro e W1 ⟨rfl, l1, l2⟩; have S1 := Lib.hid (hh.out.2.1.set_opn l2 l1); clear l1 l2)
            | (refine wpList_map_put rfl (.tmp 33) (.tmp 34) (.const (.bool true)) 80 rfl 23 4 Tryd.underlying80 Tryd.underlying23 B1 (setFn seen) rfl S1.out.seen _ ⟨a0, a1⟩ _ rfl rfl ?_; intro W2 m1 m2; have S2 := Lib.hid (S1.out.set_seen m2 (setAt_put S1.out.seen m1)); have x0 : W2.cell? ⟨w.heap.size, 0, none⟩ = some (.slice A code.length c) := (by rw [cell_of S2.out.box, HCART.out]; rfl); clear m1 m2)
            | (go_at_call 33; refine (WC.out W2 S2.out).mono ?_; rintro e W3 ⟨q1, vi, vc, q2, ri, rc, ap⟩; obtain ⟨t, t1, rfl, rfl, t2, t3, t4, t5, t6⟩ := TS0.out W2 W3 vi vc S2.out q1 ri rc ap; have q3 : e = .returned (.tuple #[.agg #[.int .u16 a, .slice t.ia t.il t.ic, .slice t.ca t.cl t.cc], .agg #[.int .i64 0, .int .u16 0]]) := (by rw [q2, XOK.out.2]; rfl); subst q3; have S3 := Lib.hid (S2.out.bel q1); have TR := Lib.hid t4; have TN := Lib.hid t5; have TD := Lib.hid t6; have TA := Lib.hid t1; have TI := Lib.hid t2; have TC := Lib.hid t3; clear q1 q2 x0 ri rc ap t1 t2 t3 t4 t5 t6; obtain ⟨ta, ia, il, ic, ca, cl, cc⟩ := t))
          have CP := Lib.hid (heap_alloc_old (o' := .cells #[.int .i64 0, .int .u16 0] 33) (heap_alloc_at W3 (.cells #[.int .u16 a, .slice ia il ic, .slice ca cl cc] 53)))
          have S4 := Lib.hid (S3.out.bel (b_alloc (b_alloc (Below.refl _ _) (.cells #[.int .u16 a, .slice ia il ic, .slice ca cl cc] 53)) (.cells #[.int .i64 0, .int .u16 0] 33)))
          have TR4 := Lib.hid (TR.out.move (W := World.alloc (World.alloc W3 (.cells #[.int .u16 a, .slice ia il ic, .slice ca cl cc] 53)) (.cells #[.int .i64 0, .int .u16 0] 33)) (fun k hk => (Below.heap_alloc _ _ _ (by have := (TR.out.lt k hk).1; simp; omega)).trans (Below.heap_alloc _ _ _ (TR.out.lt k hk).1)))
          have s3 : B1 + 1 + 1 < W3.heap.size := S3.out.size
          generalize W3.heap.size = g3 at *
          have TI' : Hid (il = x.instrs.length) := TI.out
          have TC' : Hid (cl = x.calls.length) := TC.out
          have nb : il ≤ 16384 := by rw [TI'.out]; have := lx.out.1; omega
          have mb : cl ≤ 16384 := by rw [TC'.out]; have := lx.out.2; omega
          clear S1 S2
          go_loopw [50] (fun p W => ∃ i : Nat, p = .int .i64 (i : Int) ∧ i ≤ il ∧ Hid (WSt w W cart B1 o' (ins a seen) (T ++ (x.instrs.take i).map FI.at_) u5 ts acc ∧ WRep W (B1 + 1 + 1 + 1) ⟨ta, ia, il, ic, ca, cl, cc⟩ x ∧ W.heap[g3]? = some (.cells #[.int .u16 a, .slice ia il ic, .slice ca cl cc] 53 (0, 0)))) (fun p _ => il - (intOf p).toNat)
          case atStart => exact ⟨0, rfl, Nat.zero_le _, by simpa using S4.out, TR4.out, CP.out⟩
          case round =>
            clear S3 S4 TR TR4 CP
            obtain ⟨i, rfl, hi, hw⟩ := hrel
            by_cases hlt : i < il
            · have hlx : i < x.instrs.length := by rw [← TI'.out]; exact hlt
              obtain ⟨g, rfl, c0, c1, c2, c3, c4⟩ := RowI.at_ (A := ia) (n := il) (c := ic) hw.out.2.1.rowi hlx
              obtain ⟨y, hy⟩ : ∃ y, y = x.instrs[i] := ⟨_, rfl⟩
              have hyr := XOK.out.1.inv.fin x.instrs[i] (List.getElem_mem hlx)
              have hyo : 0 ≤ x.instrs[i].at_ ∧ x.instrs[i].at_ < 65536 := by
                have := hyr.2.2.2.1.at_; exact this
              have tk := Lib.hid (List.take_append_getElem hlx)
              rw [← hy] at c0 c1 c2 c3 c4 hyo tk
              clear hyr hy
              have di : decide ((i : Int) < (il : Int)) = true := by simp; omega
              have bi : (i : Int) < (il : Int) := by omega
              have mt := Lib.hid (MapAt.below hw.out.1.taken ((Below.refl _ _).alloc (Nat.le_refl _) (.cells #[.int .u16 y.at_, .int .i64 y.op, .int .u16 y.operand, .int .u16 y.word, .int .u16 y.next] 60)))
              go_wp2_with (first
                | (refine wpList_map_put rfl (.tmp 54) (.tmp 56) (.const (.bool true)) 80 rfl 23 4 Tryd.underlying80 Tryd.underlying23 (B1 + 1) (setFn (T ++ (x.instrs.take i).map FI.at_)) rfl mt.out _ hyo _ rfl rfl ?_; intro W5 m1 m2; have M1 := Lib.hid m1; have M2 := Lib.hid m2; clear m1 m2))
              have fin : Hid (WSt w W5 cart B1 o' (ins a seen) (T ++ (x.instrs.take (i + 1)).map FI.at_) u5 ts acc ∧ WRep W5 (B1 + 1 + 1 + 1) ⟨ta, some ⟨g, 0, none⟩, il, ic, ca, cl, cc⟩ x ∧ W5.heap[g3]? = some (.cells #[.int .u16 a, .slice (some ⟨g, 0, none⟩) il ic, .slice ca cl cc] 53 (0, 0))) := by
                have s6 := hw.out.1.bel ((Below.refl wr.heap.size wr).alloc (Nat.le_refl _) (.cells #[.int .u16 y.at_, .int .i64 y.op, .int .u16 y.operand, .int .u16 y.word, .int .u16 y.next] 60))
                have s7 := s6.set_taken M2.out (setAt_put_end s6.taken M1.out)
                refine ⟨?_, hw.out.2.1.move (fun k hk => ?_), ?_⟩
                · rw [List.append_assoc] at s7
                  rw [← tk.out, List.map_append]
                  exact s7
                · have := hw.out.2.1.lt k hk
                  exact (M2.out.block k (by simp; omega) (by omega)).trans (Below.heap_alloc _ _ _ this.1)
                · exact M2.out.keep (heap_alloc_old hw.out.2.2) (by omega)
              go_roundw
              case rel => exact ⟨i + 1, by go_num, by omega, fin.out⟩
              case measure => first | (simp [intOf]; done) | (simp [intOf]; omega)
            · have hie : i = x.instrs.length := by rw [← TI'.out]; omega
              have di : decide ((i : Int) < (il : Int)) = false := by simp; omega
              have S8 := Lib.hid (show WSt w wr cart B1 o' (ins a seen) (T ++ x.instrs.map FI.at_) u5 ts acc by have := hw.out.1; rw [hie, List.take_length] at this; exact this)
              have R8 := Lib.hid hw.out.2.1
              have C8 := Lib.hid hw.out.2.2
              obtain ⟨⟨p0, p1, p2⟩, _⟩ := cells3 hw.out.2.2
              clear hw hie
              go_wp2_with (fail)
              go_loopw [61] (fun p W => ∃ i : Nat, p = .int .i64 (i : Int) ∧ i ≤ cl ∧ Hid (WSt w W cart B1 ((x.calls.take i).foldl (pushW (ins a seen)) o') (ins a seen) (T ++ x.instrs.map FI.at_) u5 ts acc ∧ WRep W (B1 + 1 + 1 + 1) ⟨ta, ia, il, ic, ca, cl, cc⟩ x ∧ W.heap[g3]? = some (.cells #[.int .u16 a, .slice ia il ic, .slice ca cl cc] 53 (0, 0)))) (fun p _ => cl - (intOf p).toNat)
              case atStart => exact ⟨0, rfl, Nat.zero_le _, S8.out, R8.out, C8.out⟩
              case round =>
                clear S8 R8 C8
                obtain ⟨i, rfl, hi, hw⟩ := hrel
                by_cases hlt : i < cl
                · have hlx : i < x.calls.length := by rw [← TC'.out]; exact hlt
                  obtain ⟨g, rfl, c0⟩ := RowU.at_ (A := ca) (n := cl) (c := cc) hw.out.2.1.rowc hlx
                  obtain ⟨d, hd⟩ : ∃ d, d = x.calls[i] := ⟨_, rfl⟩
                  have hdr := XOK.out.1.inv.cin x.calls[i] (List.getElem_mem hlx)
                  have tk := Lib.hid (List.take_append_getElem hlx)
                  rw [← hd] at c0 hdr tk
                  have hd0 : 0 ≤ d ∧ d < 65536 := ⟨hdr.1, hdr.2.1⟩
                  clear hdr hd
                  have di : decide ((i : Int) < (cl : Int)) = true := by simp; omega
                  have bi : (i : Int) < (cl : Int) := by omega
                  have fk : Hid ((x.calls.take (i + 1)).foldl (pushW (ins a seen)) o' = pushW (ins a seen) ((x.calls.take i).foldl (pushW (ins a seen)) o') d) := by
                    show _ = _
                    rw [← tk.out, List.foldl_append]; rfl
                  by_cases hin : d ∈ ins a seen
                  · have hlk := SetAt.in_ hw.out.1.seen hin
                    have fin : Hid (WSt w wr cart B1 ((x.calls.take (i + 1)).foldl (pushW (ins a seen)) o') (ins a seen) (T ++ x.instrs.map FI.at_) u5 ts acc ∧ WRep wr (B1 + 1 + 1 + 1) ⟨ta, ia, il, ic, some ⟨g, 0, none⟩, cl, cc⟩ x ∧ wr.heap[g3]? = some (.cells #[.int .u16 a, .slice ia il ic, .slice (some ⟨g, 0, none⟩) cl cc] 53 (0, 0))) := by
                      rw [fk.out]
                      unfold pushW
                      rw [if_pos hin]
                      exact hw.out
                    clear hin
                    go_wp2_with (fail)
                    go_roundw
                    case rel => exact ⟨i + 1, by go_num, by omega, fin.out⟩
                    case measure => first | (simp [intOf]; done) | (simp [intOf]; omega)
                  · have hlk := SetAt.out_ hw.out.1.seen hin
                    have hin' := Lib.hid hin
                    clear hin
                    go_wp2_with (first
                      | (refine wpList_map_put rfl (.tmp 69) (.tmp 70) (.const (.bool true)) 80 rfl 23 4 Tryd.underlying80 Tryd.underlying23 (B1 + 1 + 1) (setFn ((x.calls.take i).foldl (pushW (ins a seen)) o')) rfl hw.out.1.opn _ hd0 _ rfl rfl ?_; intro W5 m1 m2; have M1 := Lib.hid m1; have M2 := Lib.hid m2; clear m1 m2))
                    have fin : Hid (WSt w W5 cart B1 ((x.calls.take (i + 1)).foldl (pushW (ins a seen)) o') (ins a seen) (T ++ x.instrs.map FI.at_) u5 ts acc ∧ WRep W5 (B1 + 1 + 1 + 1) ⟨ta, ia, il, ic, some ⟨g, 0, none⟩, cl, cc⟩ x ∧ W5.heap[g3]? = some (.cells #[.int .u16 a, .slice ia il ic, .slice (some ⟨g, 0, none⟩) cl cc] 53 (0, 0))) := by
                      refine ⟨?_, hw.out.2.1.move (fun k hk => ?_), M2.out.keep hw.out.2.2 (by omega)⟩
                      · rw [fk.out]
                        have e : pushW (ins a seen) ((x.calls.take i).foldl (pushW (ins a seen)) o') d = ins d ((x.calls.take i).foldl (pushW (ins a seen)) o') := by unfold pushW; rw [if_neg hin'.out]
                        rw [e]
                        exact hw.out.1.set_opn M2.out (setAt_put hw.out.1.opn M1.out)
                      · have := hw.out.2.1.lt k hk
                        exact M2.out.block k this.1 (by omega)
                    go_roundw
                    case rel => exact ⟨i + 1, by go_num, by omega, fin.out⟩
                    case measure => first | (simp [intOf]; done) | (simp [intOf]; omega)
                · have hie : i = x.calls.length := by rw [← TC'.out]; omega
                  have di : decide ((i : Int) < (cl : Int)) = false := by simp; omega
                  have S9 := Lib.hid (show WSt w wr cart B1 (x.calls.foldl (pushW (ins a seen)) o') (ins a seen) (T ++ x.instrs.map FI.at_) u5 ts acc by have := hw.out.1; rw [hie, List.take_length] at this; exact this)
                  have R9 := Lib.hid hw.out.2.1
                  obtain ⟨⟨p0, p1, p2⟩, _⟩ := cells3 hw.out.2.2
                  clear hw hie
                  have RO := Lib.hid (show wr.ownsRow (B1 + 1 + 1 + 1) 53 3 u5 ts.length (ts.flatMap WT.cells) from S9.out.words.row)
                  have hts : ts.length ≤ 16384 := by
                    have e1 := S9.out.words.reps.len
                    have e2 := hh.out.2.2.1.lens
                    omega
                  have hbase : B1 + 1 + 1 + 1 ≤ wr.heap.size := S9.out.size
                  obtain ⟨n, hn⟩ : ∃ n, n = ts.length := ⟨_, rfl⟩
                  have HN := Lib.hid hn
                  rw [← hn] at RO hts
                  clear hn
                  obtain ⟨i0, hi0, hz0, hz1, hz2⟩ := info_parts infoWord
                  go_wp2_with (first
                    | (at_builtin; refine wpList_append_own_at _ rfl _ _ 30 rfl (B1 + 1 + 1 + 1) 53 i0 _ 3 56 Tryd.underlying30 hi0 hz0 hz1 hz2 rfl (by decide) u5 n _ rfl (RO.out.alloc _) ⟨wr.heap.size, 0, none⟩ 1 1 [.int .u16 a, .slice ia il ic, .slice ca cl cc] rfl rfl ?hnews ?hone (by simp only [maxLen]; omega) (by omega) (by simp; omega) ?_; (case hnews => exact news3 _ (heap_alloc_at _ _)); (case hone => intro u hu; simp at hu; rcases hu with rfl | rfl | rfl <;> rfl); intro v' w3 ho hgr _ hat; obtain ⟨g4, cap4, rfl⟩ := ownsRow_succ ho; have OH := Lib.hid ho; have GH := Lib.hid hgr; have AH := Lib.hid (new_block1 hat); clear ho hgr hat))
                  have fin : Hid (WSt w w3 cart B1 (x.calls.foldl (pushW (ins a seen)) o') (ins a seen) (T ++ x.instrs.map FI.at_) (.slice (some ⟨g4, 0, none⟩) (n + 1) cap4) (ts ++ [⟨ta, ia, il, ic, ca, cl, cc⟩]) (acc ++ [x])) := by
                    refine S9.out.add HN.out R9.out TN.out TD.out GH.out ?_ AH.out
                    have e : (WT.cells ⟨ta, ia, il, ic, ca, cl, cc⟩) = [.int .u16 a, .slice ia il ic, .slice ca cl cc] := by
                      have ea : (ta.val : Int) = a := by have e1 : ta.val = a.toNat := TA.out; omega
                      show [Value.int .u16 (ta.val : Int), .slice ia il ic, .slice ca cl cc] = _
                      rw [ea]
                    rw [e]
                    exact OH.out
                  go_roundg k1
                  case rel => exact ⟨_, _, _, _, _, NEXT.out, fin.out, hh.out.2.2.1.next XOK.out.1 XOK.out.2, fun _ h => by simp at h⟩
                  case measure => omega

/-- What Words answers of a cartridge. -/
def wordsFull (kw k : Nat) (code : List Int) (en : Int) (E : List (Int × Int × Int)) (B : List (Int × Nat)) : Option (Except (Int × Int) (List FW)) :=
  if cartOk code.length E B = true then wordsOf kw k code en else some (.error (74, 0))
theorem words_any (w : World) (A : Option Addr) (c : Nat) (code : List Int) (en : Int) (Ae : Option Addr) (ce : Nat) (E : List (Int × Int × Int)) (Ab : Option Addr) (cb : Nat) (B : List (Int × Nat)) (h : CodeIn w A code) (ht : Tab w) (hE : EffsIn w Ae E) (hB : BanksIn w Ab B) (h0 : 0 ≤ en) (h1 : en < 65536)
    (kw k : Nat) (r : Except (Int × Int) (List FW)) (hr : wordsFull kw k code en E B = some r) :
    Calls Tryd.prog 11 #[.agg #[.slice A code.length c, .int .u16 en, .slice Ae E.length ce, .slice Ab B.length cb]] w fun e w' => WordsPost w r e w' := by
  unfold wordsFull at hr
  by_cases hok : cartOk code.length E B = true
  · rw [if_pos hok] at hr
    unfold wordsOf at hr
    cases hw : wsl code kw k [en] [] [] [] with
    | none => rw [hw] at hr; cases hr
    | some R =>
      rw [hw] at hr
      cases hr
      exact words_good w A c code en Ae ce E Ab cb B h ht hE hB h0 h1 kw k R hok hw
  · rw [if_neg hok] at hr
    cases hr
    exact words_bad w A code.length c en Ae ce E Ab cb B h.len hE hB (by simpa using hok)
theorem wordsFull_some {code : List Int} {E : List (Int × Int × Int)} {B : List (Int × Nat)} {en : Int} (hb : ∀ j, 0 ≤ code.getD j 0 ∧ code.getD j 0 < 256) (h0 : 0 ≤ en) (h1 : en < 65536) : ∃ r, wordsFull 20000 20000 code en E B = some r := by
  unfold wordsFull
  by_cases hok : cartOk code.length E B = true
  · rw [if_pos hok]
    have hl : code.length ≤ 16384 := by
      unfold cartOk at hok
      simp at hok
      omega
    obtain ⟨R, hR⟩ := wsl_some (kw := 20000) hb (by omega) 20000 [en] [] [] [] (SInv.start code en ⟨h0, h1⟩) (by simp; omega)
    unfold wordsOf
    rw [hR]
    exact ⟨_, rfl⟩
  · rw [if_neg hok]
    exact ⟨_, rfl⟩
end Go.Proofs.YtabeljpnmmfpgaaDoor
