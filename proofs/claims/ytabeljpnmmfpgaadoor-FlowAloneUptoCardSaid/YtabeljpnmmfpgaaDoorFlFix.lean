/-
  Code of cells that are told by hand: 64 threads and these cells; the words of such code.
-/
import Derived.Deep.AppendLies
import Derived.Test.YtabeljpnmmfpgaaDoorFlWords
namespace Go.Proofs.YtabeljpnmmfpgaaDoor
open Go.RowKit Go.MapKept Go.Maps Go.Sort
set_option linter.unusedVariables false
set_option linter.unusedSimpArgs false

/-- A row of bytes of the call's own. -/
def RowB (w : World) (base : Nat) (v : Value) (l : List Int) : Prop := w.ownsRow base 5 1 v l.length (l.map (Value.int .u8))
theorem RowB.nil (w : World) (base : Nat) : RowB w base (.slice none 0 0) [] := World.ownsRow_nil _ _ _ _
theorem RowB.slice {w : World} {base : Nat} {v : Value} {l : List Int} (h : RowB w base v l) : ∃ A c, v = .slice A l.length c := by
  rcases h.2 with ⟨rfl, hn⟩ | ⟨g, cap, cur, rfl, _⟩
  · exact ⟨none, 0, by rw [hn]⟩
  · exact ⟨_, cap, rfl⟩
theorem RowB.own {w : World} {base : Nat} {v : Value} {l : List Int} (h : RowB w base v l) (k : Nat) (hk : v.ownBlock = some k) : k < w.heap.size ∧ base ≤ k := by
  rcases h.2 with ⟨rfl, _⟩ | ⟨g, cap, cur, rfl, hb, hh, _⟩
  · simp [Value.ownBlock] at hk
  · have : g = k := by simpa [Value.ownBlock] using hk
    subst this
    exact ⟨heap_lt hh, hb⟩
theorem RowB.move {w W : World} {base : Nat} {v : Value} {l : List Int} (h : RowB w base v l) (hm : ∀ k, v.ownBlock = some k → W.heap[k]? = w.heap[k]?) : RowB W base v l := by
  obtain ⟨h1, h2⟩ := h
  refine ⟨h1, ?_⟩
  rcases h2 with h2 | ⟨g, cap, cur, rfl, hg, hh, r⟩
  · exact .inl h2
  · exact .inr ⟨g, cap, cur, rfl, hg, (hm g (by simp [Value.ownBlock])).trans hh, r⟩
theorem RowB.below {w W : World} {base : Nat} {v : Value} {l : List Int} (h : RowB w base v l) (hb : Below w.heap.size w W) : RowB W base v l := h.move (fun k hk => hb.block k (h.own k hk).1)
theorem RowB.cell {w : World} {base n c : Nat} {A : Option Addr} {l : List Int} (h : RowB w base (.slice A n c) l) {i : Nat} (hi : i < l.length) : ∃ g, A = some ⟨g, 0, none⟩ ∧ w.cell? ⟨g, i, none⟩ = some (.int .u8 (l.getD i 0)) := by
  have h' : w.ownsRow base 5 1 (.slice A n c) l.length (l.map (Value.int .u8)) := h
  rcases h'.2 with ⟨e, hn⟩ | ⟨g, cap, cur, e, hg, _⟩
  · omega
  · cases e
    have := h'.cells (g := g) rfl i (.int .u8 (l.getD i 0)) (by rw [List.getElem?_map, List.getD_eq_getElem?_getD, List.getElem?_eq_getElem hi]; rfl)
    have e : (⟨g, 0, none⟩ : Addr).add i = ⟨g, i, none⟩ := by unfold Addr.add; split <;> simp_all
    exact ⟨g, rfl, by rwa [e] at this⟩
theorem RowB.codeIn {w : World} {base n c : Nat} {A : Option Addr} {l : List Int} (h : RowB w base (.slice A n c) l) (hb : ∀ x ∈ l, 0 ≤ x ∧ x < 256) (hl : l.length ≤ 1000000000000) : CodeIn w A l := by
  refine ⟨fun j => ?_, hl, fun j hj => ?_⟩
  · rw [List.getD_eq_getElem?_getD]
    by_cases hj : j < l.length
    · rw [List.getElem?_eq_getElem hj]; exact hb _ (List.getElem_mem hj)
    · rw [List.getElem?_eq_none (by omega)]; decide
  · obtain ⟨g, e, hc⟩ := h.cell hj
    refine ⟨⟨g, 0, none⟩, e, ?_⟩
    have e2 : (⟨g, 0, none⟩ : Addr).add j = ⟨g, j, none⟩ := by unfold Addr.add; split <;> simp_all
    rw [e2]; exact hc

/-! ### Code -/
def thr (i : Nat) : List Int := (List.range i).flatMap fun (j : Nat) => [(j : Int), 0]
def byts (cs : List Int) : List Int := cs.flatMap fun x => [x % 256, x / 256]
def codeOf (cs : List Int) : List Int := thr 64 ++ byts cs
theorem thr_succ (i : Nat) : thr (i + 1) = thr i ++ [(i : Int), 0] := by unfold thr; rw [List.range_succ, List.flatMap_append]; rfl
theorem thr_len : ∀ i, (thr i).length = i * 2
  | 0 => rfl
  | i + 1 => by rw [thr_succ, List.length_append, thr_len i]; simp; omega
theorem byts_len : ∀ l, (byts l).length = l.length * 2
  | [] => rfl
  | x :: l => by
    unfold byts
    rw [List.flatMap_cons, List.length_append]
    have := byts_len l
    unfold byts at this
    rw [this]; simp; omega
theorem byts_snoc (l : List Int) (x : Int) : byts (l ++ [x]) = byts l ++ [x % 256, x / 256] := by unfold byts; rw [List.flatMap_append]; rfl
theorem codeOf_byte (cs : List Int) (h : ∀ x ∈ cs, 0 ≤ x ∧ x < 65536) : ∀ y ∈ codeOf cs, 0 ≤ y ∧ y < 256 := by
  intro y hy
  unfold codeOf thr byts at hy
  rcases List.mem_append.1 hy with hy | hy
  · obtain ⟨j, hj, hy⟩ := List.mem_flatMap.1 hy
    have hj := List.mem_range.1 hj
    simp at hy
    omega
  · obtain ⟨x, hx, hy⟩ := List.mem_flatMap.1 hy
    have := h x hx
    simp at hy
    omega
theorem infoByte : (Tryd.prog.info? 5).map (fun i => (i.zero, i.size, i.bytes)) = some (some (.int .u8 0), 1, 1) := by kernel_rfl
theorem newsB2 (W : World) {g : Nat} {v0 v1 : Value} {t : TypeId} (h : W.heap[g]? = some (.cells #[v0, v1] t (0, 0))) : ∀ (j : Nat) (u : Value), [v0, v1][j]? = some u → W.cell? ((⟨g, 0, none⟩ : Addr).add j) = some u := by
  intro j u hu
  have e : (⟨g, 0, none⟩ : Addr).add j = ⟨g, j, none⟩ := by unfold Addr.add; split <;> simp_all
  rw [e, cell_of h j]
  simpa using hu
/-- The code so far. -/
structure CdW (w W : World) (v : Value) (l : List Int) : Prop where
  below : Below w.heap.size w W
  row : RowB W w.heap.size v l
theorem CdW.add {w W W' : World} {v : Value} {l : List Int} {x y : Int} {ob : Obj} {g cap n : Nat} (h : CdW w W v l) (hn : n = l.length) (hgr : World.grownBy (W.alloc ob) W' v.ownBlock)
    (ho : W'.ownsRow w.heap.size 5 1 (.slice (some ⟨g, 0, none⟩) (n + 2) cap) (n + 2) (l.map (Value.int .u8) ++ [.int .u8 x, .int .u8 y])) : CdW w W' (.slice (some ⟨g, 0, none⟩) (n + 2) cap) (l ++ [x, y]) := by
  have hb2 := b_alloc h.below ob
  refine ⟨hb2.grown hgr hb2.size (fun k hk => (h.row.own k hk).2), ?_⟩
  unfold RowB
  rw [show (l ++ [x, y]).length = n + 2 by simp [hn], List.map_append]
  exact ho

set_option maxRecDepth 100000 in
set_option maxHeartbeats 4000000 in
theorem code_any (w : World) (b n c : Nat) (cs : List Int) (hn : n = cs.length) (hl : cs.length ≤ 1000) (hr : ∀ x ∈ cs, 0 ≤ x ∧ x < 65536) (hc : ∀ (i : Nat) (hi : i < cs.length), w.cell? ⟨b, i, none⟩ = some (.int .u16 cs[i])) :
    Calls Tryd.prog 41 #[.slice (some ⟨b, 0, none⟩) n c] w fun e w' => ∃ v, e = .returned v ∧ CdW w w' v (codeOf cs) := by
  have HC := Lib.hid hc
  have HR := Lib.hid hr
  have HN := Lib.hid hn
  have nb : n ≤ 1000 := by omega
  clear hc hr hn
  obtain ⟨i0, hi0, hz0, hz1, hz2⟩ := info_parts infoByte
  go_enter Tryd.func41, Tryd.ntmps41
  go_wp2_with (fail)
  go_loopw [3, 4] (fun v p W => ∃ i : Nat, p = .int .i64 (i : Int) ∧ i ≤ 64 ∧ Hid (CdW w W v (thr i))) (fun _ p _ => 64 - (intOf p).toNat)
  case atStart => exact ⟨0, rfl, by omega, Below.refl _ _, RowB.nil _ _⟩
  case round =>
    obtain ⟨i, rfl, hi, hw⟩ := hrel
    by_cases hlt : i < 64
    · have di : decide ((i : Int) < 64) = true := by simp; omega
      have RO := Lib.hid (show wr.ownsRow w.heap.size 5 1 u3 (thr i).length ((thr i).map (Value.int .u8)) from hw.out.row)
      have hb := hw.out.below.size
      have ll : (thr i).length ≤ 128 := by rw [thr_len i]; omega
      obtain ⟨m, hm⟩ : ∃ m, m = (thr i).length := ⟨_, rfl⟩
      have HM := Lib.hid hm
      rw [← hm] at RO ll
      clear hm
      go_wp2_with (first
        | (at_builtin; refine wpList_append_own_at _ rfl _ _ 22 rfl w.heap.size 5 i0 _ 1 1 Tryd.underlying22 hi0 hz0 hz1 hz2 rfl (by decide) u3 m _ rfl (RO.out.alloc _) ⟨wr.heap.size, 0, none⟩ 2 2 [.int .u8 (i : Int), .int .u8 0] rfl rfl ?hnews ?hone (by simp only [maxLen]; omega) (by omega) (by simp; omega) ?_; (case hnews => exact newsB2 _ (heap_alloc_at _ _)); (case hone => intro u hu; simp at hu; rcases hu with rfl | rfl <;> rfl); intro v' w3 ho hgr _ hat; obtain ⟨g4, cap4, rfl⟩ := ownsRow_succ ho; have OH := Lib.hid ho; have GH := Lib.hid hgr; clear ho hgr hat))
      have fin : Hid (CdW w w3 (.slice (some ⟨g4, 0, none⟩) (m + 2) cap4) (thr (i + 1))) := by
        rw [thr_succ]
        exact hw.out.add HM.out GH.out OH.out
      go_roundw
      case rel => exact ⟨i + 1, by go_num, by omega, fin.out⟩
      case measure => first | (simp [intOf]; done) | (simp [intOf]; omega)
    · have di : decide ((i : Int) < 64) = false := by simp; omega
      have W0 := Lib.hid (show CdW w wr u3 (thr 64) by have := hw.out; rwa [show i = 64 by omega] at this)
      clear hw
      go_wp2_with (fail)
      go_loopw [3, 5] (fun v p W => ∃ i : Nat, p = .int .i64 (i : Int) ∧ i ≤ n ∧ Hid (CdW w W v (thr 64 ++ byts (cs.take i)))) (fun _ p _ => n - (intOf p).toNat)
      case atStart => exact ⟨0, rfl, by omega, show CdW w wr u3 (thr 64 ++ byts (cs.take 0)) by simpa [byts] using W0.out⟩
      case round =>
        clear W0
        obtain ⟨i, rfl, hi, hw⟩ := hrel
        by_cases hlt : i < n
        · have hlx : i < cs.length := by rw [← HN.out]; exact hlt
          obtain ⟨x, hx⟩ : ∃ x, x = cs[i] := ⟨_, rfl⟩
          have c0 := (hw.out.below.cell (World.block_lt_of_cell? w _ (HC.out i hlx))).trans (HC.out i hlx)
          have hxr := HR.out cs[i] (List.getElem_mem hlx)
          have tk := Lib.hid (List.take_append_getElem hlx)
          rw [← hx] at c0 hxr tk
          obtain ⟨x0, x1⟩ := hxr
          clear hx
          have di : decide ((i : Int) < (n : Int)) = true := by simp; omega
          have bi : (i : Int) < (n : Int) := by omega
          have RO := Lib.hid (show wr.ownsRow w.heap.size 5 1 u3 (thr 64 ++ byts (cs.take i)).length ((thr 64 ++ byts (cs.take i)).map (Value.int .u8)) from hw.out.row)
          have hb := hw.out.below.size
          have ll : (thr 64 ++ byts (cs.take i)).length ≤ 4000 := by rw [List.length_append, thr_len, byts_len, List.length_take]; omega
          obtain ⟨m, hm⟩ : ∃ m, m = (thr 64 ++ byts (cs.take i)).length := ⟨_, rfl⟩
          have HM := Lib.hid hm
          rw [← hm] at RO ll
          clear hm
          obtain ⟨p, hp⟩ : ∃ p, p = IntKind.u8.wrap (x.tmod 256) := ⟨_, rfl⟩
          obtain ⟨q, hq⟩ : ∃ q, q = IntKind.u8.wrap (IntKind.u16.wrap (x.tdiv 256)) := ⟨_, rfl⟩
          have ep : Hid (p = x % 256) := by
            show p = x % 256
            rw [hp, Int.tmod_eq_emod_of_nonneg x0]
            simp [IntKind.wrap, IntKind.bits, IntKind.signed]
          have eq' : Hid (q = x / 256) := by
            show q = x / 256
            rw [hq, Int.tdiv_eq_ediv_of_nonneg x0]
            simp [IntKind.wrap, IntKind.bits, IntKind.signed]; omega
          have HV : Hid ((World.drew (wr.alloc (.cells #[.int .u8 p, .int .u8 q] 5))).ownsRow w.heap.size 5 1 u3 m ((thr 64 ++ byts (cs.take i)).map (Value.int .u8))) := (RO.out.alloc _).drew
          have NW : Hid (∀ j u, ([.int .u8 p, .int .u8 q] : List Value)[j]? = some u → (World.drew (wr.alloc (.cells #[.int .u8 p, .int .u8 q] 5))).cell? ((⟨wr.heap.size, 0, none⟩ : Addr).add j) = some u) := newsB2 (wr.alloc _) (heap_alloc_at _ _)
          have fin : Hid (∀ (g cap : Nat) (w3 : World), World.grownBy (World.drew (wr.alloc (.cells #[.int .u8 p, .int .u8 q] 5))) w3 u3.ownBlock → w3.ownsRow w.heap.size 5 1 (.slice (some ⟨g, 0, none⟩) (m + 2) cap) (m + 2) ((thr 64 ++ byts (cs.take i)).map (Value.int .u8) ++ [.int .u8 p, .int .u8 q]) →
              CdW w w3 (.slice (some ⟨g, 0, none⟩) (m + 2) cap) (thr 64 ++ byts (cs.take (i + 1)))) := fun g cap w3 hg ho => by
            rw [← tk.out, byts_snoc, ← List.append_assoc]
            rw [ep.out, eq'.out] at ho
            exact hw.out.add HM.out ⟨hg.os, hg.tape, hg.output, hg.size, hg.block⟩ ho
          rw [hp, hq] at HV NW fin
          clear hp hq
          go_wp2_with (fail)
          go_region_law (refine step_append_lies _ rfl (.tmp 21) (.tmp 34) 22 rfl w.heap.size 5 i0 _ 1 1 Tryd.underlying22 hi0 hz0 hz1 hz2 rfl (by decide) u3 m _ (by simp [Act.eval]) HV.out ⟨wr.heap.size, 0, none⟩ 2 2 [.int .u8 (IntKind.u8.wrap (x.tmod 256)), .int .u8 (IntKind.u8.wrap (IntKind.u16.wrap (x.tdiv 256)))] (by simp [Act.eval]) rfl NW.out (by simp [Value.oneCell']) (by decide) (by simp only [maxLen]; omega) (by omega) (by simp; omega) _ rfl ?_; intro g4 cap4 w3 ho hgr hat hlt'; have F3 := Lib.hid (fin.out g4 cap4 w3 hgr ho); clear ho hgr hat hlt')
          all_goals
            go_wp2_with (fail)
            go_roundw
            case rel => exact ⟨i + 1, by go_num, by omega, F3.out⟩
            case measure => first | (simp [intOf]; done) | (simp [intOf]; omega)
        · have di : decide ((i : Int) < (n : Int)) = false := by simp; omega
          have fin := Lib.hid (show CdW w wr u3 (codeOf cs) by have := hw.out; rw [show i = cs.length by have := HN.out; omega, List.take_length] at this; exact this)
          clear hw
          go_wp2_with (fail)
          go_ret
          exact ⟨u3, rfl, fin.out⟩

set_option maxRecDepth 100000 in
set_option maxHeartbeats 4000000 in
theorem at_any (w : World) (b n c : Nat) (cs : List Int) (ht : Tab w) (hn : n = cs.length) (hl : cs.length ≤ 1000) (hr : ∀ x ∈ cs, 0 ≤ x ∧ x < 65536) (hc : ∀ (i : Nat) (hi : i < cs.length), w.cell? ⟨b, i, none⟩ = some (.int .u16 cs[i]))
    (kw k : Nat) (r : Except (Int × Int) (List FW)) (hw : wordsFull kw k (codeOf cs) 128 [] [] = some r) :
    Calls Tryd.prog 25 #[.slice (some ⟨b, 0, none⟩) n c] w fun e w' => WordsPost w r e w' := by
  have b0 : Below w.heap.size w (w.alloc (.cells #[.int .i64 0, .int .u16 0] 33)) := b_alloc (Below.refl _ _) _
  have CD := Lib.hid (code_any (w.alloc (.cells #[.int .i64 0, .int .u16 0] 33)) b n c cs hn hl hr (fun i hi => cell_alloc_old (hc i hi)))
  have r0 := Lib.hid (heap_alloc_at w (.cells #[.int .i64 0, .int .u16 0] 33))
  have WO : Hid (∀ W v, CdW (w.alloc (.cells #[.int .i64 0, .int .u16 0] 33)) W v (codeOf cs) → Calls Tryd.prog 11 #[.agg #[v, .int .u16 128, .slice none 0 0, .slice none 0 0]] W fun e w' => WordsPost W r e w') := by
    intro W v h
    obtain ⟨A, cc, rfl⟩ := h.row.slice
    refine words_any W A cc (codeOf cs) 128 none 0 [] none 0 [] (h.row.codeIn (codeOf_byte cs hr) ?_) (ht.below ?_) (EffsIn.nil W) (BanksIn.nil W) (by decide) (by decide) kw k r hw
    · unfold codeOf
      rw [List.length_append, thr_len, byts_len]; omega
    · exact b_then b0 h.below
  clear ht hc hr hw hn hl
  go_enter Tryd.func25, Tryd.ntmps25
  go_wp2_with (fail)
  refine CD.out.mono ?_
  rintro e W1 ⟨v, rfl, h1⟩
  obtain ⟨A, cc, rfl⟩ := h1.row.slice
  have H1 := Lib.hid h1
  clear h1 CD
  go_wp2_with (fail)
  refine (WO.out W1 _ H1.out).mono ?_
  rintro e W2 hp
  have HP := Lib.hid hp
  have s1 : w.heap.size + 1 ≤ W1.heap.size := by have := H1.out.below.size; simpa using this
  have R2 := Lib.hid ((hp.1.block _ (by omega)).trans ((H1.out.below.block _ (by simp)).trans r0.out))
  have B2 := Lib.hid (b_then (b_then b0 H1.out.below) hp.1)
  obtain ⟨⟨x3, x4⟩, y3, y4⟩ := cells2 R2.out
  cases r with
  | error ez =>
    obtain ⟨z, za⟩ := ez
    obtain ⟨p1, p2⟩ := hp
    have p3 : e = .returned (.tuple #[.slice none 0 0, .agg #[.int .i64 z, .int .u16 za]]) := p2
    subst p3
    clear p1 p2 HP
    go_wp2_with (fail)
    refine tail_ws R2.out (by omega) B2.out ?_
    intro V g7 hB hU
    obtain ⟨⟨m3, m4⟩, _⟩ := cells2 g7
    exact bodyPost_ret (v := .tuple #[.slice none 0 0, .agg #[.int .i64 z, .int .u16 za]]) (by simp [results, Tryd.results25, go_sem, m3, m4]) rfl ⟨hB, rfl⟩
  | ok ws =>
    obtain ⟨p1, u, ts, p2, p3⟩ := hp
    subst p2
    have P3 := Lib.hid p3
    clear p1 p3 HP
    go_wp2_with (fail)
    refine tail_ws R2.out (by omega) B2.out ?_
    intro V g7 hB hU
    obtain ⟨⟨m3, m4⟩, _⟩ := cells2 g7
    refine bodyPost_ret (v := .tuple #[u, .agg #[.int .i64 0, .int .u16 0]]) (by simp [results, Tryd.results25, go_sem, m3, m4]) rfl ⟨hB, u, ts, rfl, ?_⟩
    exact (P3.out.move (fun k hk hb => hU.block k hk (by omega))).lower (by omega)

/-- The first worked example's words. -/
theorem fixed_words : wordsFull 50 50 (codeOf [1, 16]) 128 [] [] = some (.ok [⟨128, [⟨130, 8, 0, 0, 132⟩], []⟩]) := by kernel_rfl
end Go.Proofs.YtabeljpnmmfpgaaDoor
