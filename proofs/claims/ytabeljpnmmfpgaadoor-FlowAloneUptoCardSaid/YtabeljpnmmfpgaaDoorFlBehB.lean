/-
  The first worked example.
  FlowNames: its calls, at the rows they are made with.
  The order's plain law: what Order answers, with no program in sight.
  FlowBehind: its calls' answers; a word whose calls are struck.
  FlowBehind: what its calls answer, as the walk wants it.
-/
import Derived.Laws.StructEq
import Derived.Test.YtabeljpnmmfpgaaDoorFlFix
import Derived.Test.YtabeljpnmmfpgaaDoorFlOrder
import Derived.Test.YtabeljpnmmfpgaaDoorFlRefA
namespace Go.Proofs.YtabeljpnmmfpgaaDoor
open Go.RowKit Go.MapKept Go.Maps Go.Sort
set_option linter.unusedVariables false
set_option linter.unusedSimpArgs false

theorem Reps.at_ {w : World} {base : Nat} : ∀ {ts : List WT} {ws : List FW}, Reps w base ts ws → ∀ (i : Nat) (hi : i < ws.length), ∃ ht : i < ts.length, WRep w base ts[i] ws[i]
  | [], [], _, i, hi => by simp at hi
  | t :: ts, x :: ws, h, 0, _ => ⟨by simp, h.1⟩
  | t :: ts, x :: ws, h, i + 1, hi => by
    obtain ⟨h1, h2⟩ := Reps.at_ h.2 i (by simpa using hi)
    exact ⟨by simpa using h1, h2⟩
/-- A word that is read. -/
theorem WordsAt.at_ {W : World} {base : Nat} {v : Value} {ts : List WT} {ws : List FW} (h : WordsAt W base v ts ws) (i : Nat) (hi : i < ws.length) :
    ∃ g cap ia ic ca cc, v = .slice (some ⟨g, 0, none⟩) ws.length cap ∧ W.cell? ⟨g, i * 3, none⟩ = some (.int .u16 (ws[i]).at_) ∧ W.cell? ⟨g, i * 3 + 1, none⟩ = some (.slice ia (ws[i]).instrs.length ic) ∧ W.cell? ⟨g, i * 3 + 2, none⟩ = some (.slice ca (ws[i]).calls.length cc) ∧
      RowI W base (.slice ia (ws[i]).instrs.length ic) (ws[i]).instrs ∧ RowU W base (.slice ca (ws[i]).calls.length cc) (ws[i]).calls := by
  obtain ⟨ht, hr⟩ := h.reps.at_ i hi
  have hl := h.reps.len
  have h' : W.ownsRow base 53 3 v ts.length (ts.flatMap WT.cells) := h.row
  rcases h'.2 with ⟨e, hn⟩ | ⟨g, cap, cur, e, hg, _⟩
  · omega
  · subst e
    have key : ∀ k u, k < 3 → (ts[i]).cells[k]? = some u → W.cell? ⟨g, i * 3 + k, none⟩ = some u := fun k u hk hu => by
      have := h'.cells (g := g) rfl (i * 3 + k) u (by rw [flat3 ts i k ht hk]; exact hu)
      have e : (⟨g, 0, none⟩ : Addr).add (i * 3 + k) = ⟨g, i * 3 + k, none⟩ := by unfold Addr.add; split <;> simp_all
      rwa [e] at this
    obtain ⟨ia, ic, ei⟩ := hr.rowi.slice
    obtain ⟨ca, cc, ec⟩ := hr.rowc.slice
    have r1 := hr.rowi
    have r2 := hr.rowc
    rw [ei] at r1
    rw [ec] at r2
    refine ⟨g, cap, ia, ic, ca, cc, by rw [hl], ?_, ?_, ?_, r1, r2⟩
    · rw [← hr.at_]; exact key 0 _ (by decide) rfl
    · rw [← ei]; exact key 1 _ (by decide) rfl
    · rw [← ec]; exact key 2 _ (by decide) rfl

set_option maxRecDepth 100000 in
set_option maxHeartbeats 4000000 in
theorem fixed_any (w : World) (ht : Tab w) : Calls Tryd.prog 9 #[] w fun e w' => e = .returned (.bool true) ∧ Below w.heap.size w w' := by
  have b0 : Below w.heap.size w (w.alloc (.cells #[.int .u16 1, .int .u16 16] 23)) := b_alloc (Below.refl _ _) _
  have AT := Lib.hid (at_any (w.alloc (.cells #[.int .u16 1, .int .u16 16] 23)) w.heap.size 2 2 [1, 16] (ht.below b0) rfl (by decide) (by decide) (fun i hi => by
    rw [cell_of (heap_alloc_at w _)]
    match i, hi with
    | 0, _ => rfl
    | 1, _ => rfl) 50 50 _ fixed_words)
  have B0 := Lib.hid b0
  clear ht b0
  go_enter Tryd.func9, Tryd.ntmps9
  go_wp2_with (fail)
  refine AT.out.mono ?_
  rintro e W1 ⟨p1, u, ts, rfl, p2⟩
  have B1 := Lib.hid (b_then B0.out p1)
  obtain ⟨g, cap, ia, ic, ca, cc, rfl, c0, c1, c2, ri, rc⟩ := p2.at_ 0 (by decide)
  obtain ⟨gi, rfl, d0, d1, d2, d3, d4⟩ := ri.at_ (i := 0) (by decide)
  clear AT p1 p2 ri rc B0
  simp only [Nat.zero_mul, Nat.zero_add, List.length_cons, List.length_nil, List.getElem_cons_zero] at c0 c1 c2 d0 d1 d2 d3 d4
  have c0 := cell_alloc_old (o := .cells #[.int .i64 0, .int .u16 0] 33) c0
  have c1 := cell_alloc_old (o := .cells #[.int .i64 0, .int .u16 0] 33) c1
  have c2 := cell_alloc_old (o := .cells #[.int .i64 0, .int .u16 0] 33) c2
  have d0 := cell_alloc_old (o := .cells #[.int .i64 0, .int .u16 0] 33) d0
  have d1 := cell_alloc_old (o := .cells #[.int .i64 0, .int .u16 0] 33) d1
  have d2 := cell_alloc_old (o := .cells #[.int .i64 0, .int .u16 0] 33) d2
  have d3 := cell_alloc_old (o := .cells #[.int .i64 0, .int .u16 0] 33) d3
  have d4 := cell_alloc_old (o := .cells #[.int .i64 0, .int .u16 0] 33) d4
  go_wp2_with (fail)
  go_ret
  exact ⟨rfl, b_alloc B1.out _⟩
end Go.Proofs.YtabeljpnmmfpgaaDoor

namespace Go.Proofs.YtabeljpnmmfpgaaDoor
open Go.RowKit Go.MapKept Go.Maps Go.Sort
set_option linter.unusedVariables false
set_option linter.unusedSimpArgs false

theorem fresh_cells (W : World) (l : List Value) (t : TypeId) (i : Nat) (hi : i < l.length) : (W.alloc (.cells l.toArray t)).cell? ⟨W.heap.size, i, none⟩ = some l[i] := by
  rw [cell_of (heap_alloc_at W _)]
  simp [hi]
/-- 'at' at a fresh row. -/
theorem at_fresh (W : World) (ht : Tab W) (cs : List Int) (n : Nat) (hn : n = cs.length) (hl : cs.length ≤ 1000) (hr : ∀ x ∈ cs, 0 ≤ x ∧ x < 65536) (r : Except (Int × Int) (List FW)) (hw : wordsFull 50 50 (codeOf cs) 128 [] [] = some r) :
    Calls Tryd.prog 25 #[.slice (some ⟨W.heap.size, 0, none⟩) n n] (W.alloc (.cells (cs.map (Value.int .u16)).toArray 23)) fun e w' => WordsPost (W.alloc (.cells (cs.map (Value.int .u16)).toArray 23)) r e w' := by
  refine at_any _ _ n n cs (ht.below (b_alloc (Below.refl _ _) _)) hn hl hr (fun i hi => ?_) 50 50 r hw
  rw [fresh_cells W _ _ i (by simpa using hi)]
  simp
theorem at_bad (W : World) (ht : Tab W) (cs : List Int) (n : Nat) (hn : n = cs.length) (hl : cs.length ≤ 1000) (hr : ∀ x ∈ cs, 0 ≤ x ∧ x < 65536) (z a : Int) (hw : wordsFull 50 50 (codeOf cs) 128 [] [] = some (.error (z, a))) :
    Calls Tryd.prog 25 #[.slice (some ⟨W.heap.size, 0, none⟩) n n] (W.alloc (.cells (cs.map (Value.int .u16)).toArray 23)) fun e w' => e = .returned (.tuple #[.slice none 0 0, .agg #[.int .i64 z, .int .u16 a]]) ∧ Below W.heap.size W w' :=
  (at_fresh W ht cs n hn hl hr _ hw).mono fun e w' h => ⟨h.2, b_then (b_alloc (Below.refl _ _) _) h.1⟩
theorem at_good (W : World) (ht : Tab W) (cs : List Int) (n : Nat) (hn : n = cs.length) (hl : cs.length ≤ 1000) (hr : ∀ x ∈ cs, 0 ≤ x ∧ x < 65536) (ws : List FW) (hw : wordsFull 50 50 (codeOf cs) 128 [] [] = some (.ok ws)) :
    Calls Tryd.prog 25 #[.slice (some ⟨W.heap.size, 0, none⟩) n n] (W.alloc (.cells (cs.map (Value.int .u16)).toArray 23)) fun e w' => (∃ v ts, e = .returned (.tuple #[v, .agg #[.int .i64 0, .int .u16 0]]) ∧ WordsAt w' (W.heap.size + 1) v ts ws) ∧ Below W.heap.size W w' :=
  (at_fresh W ht cs n hn hl hr _ hw).mono fun e w' h => by
    obtain ⟨h1, v, ts, h2, h3⟩ := h
    exact ⟨⟨v, ts, h2, by simpa using h3⟩, b_then (b_alloc (Below.refl _ _) _) h1⟩
/-- 'Words' at a fresh row. -/
theorem words_bad_fresh (W : World) (ht : Tab W) (cs : List Int) (n : Nat) (hn : n = cs.length) (hl : cs.length ≤ 1000) (hr : ∀ x ∈ cs, 0 ≤ x ∧ x < 256) (z a : Int) (hw : wordsFull 50 50 cs 0 [] [] = some (.error (z, a))) :
    Calls Tryd.prog 11 #[.agg #[.slice (some ⟨W.heap.size, 0, none⟩) n n, .int .u16 0, .slice none 0 0, .slice none 0 0]] (W.alloc (.cells (cs.map (Value.int .u8)).toArray 5)) fun e w' => e = .returned (.tuple #[.slice none 0 0, .agg #[.int .i64 z, .int .u16 a]]) ∧ Below W.heap.size W w' := by
  subst hn
  have hC : CodeIn (W.alloc (.cells (cs.map (Value.int .u8)).toArray 5)) (some ⟨W.heap.size, 0, none⟩) cs := by
    refine ⟨fun j => ?_, by omega, fun j hj => ⟨_, rfl, ?_⟩⟩
    · rw [List.getD_eq_getElem?_getD]
      by_cases hj : j < cs.length
      · rw [List.getElem?_eq_getElem hj]; exact hr _ (List.getElem_mem hj)
      · rw [List.getElem?_eq_none (by omega)]; decide
    · have e2 : (⟨W.heap.size, 0, none⟩ : Addr).add j = ⟨W.heap.size, j, none⟩ := by unfold Addr.add; split <;> simp_all
      rw [e2, fresh_cells W _ _ j (by simpa using hj), List.getD_eq_getElem?_getD, List.getElem?_eq_getElem hj]
      simp
  have b0 : Below W.heap.size W (W.alloc (.cells (cs.map (Value.int .u8)).toArray 5)) := b_alloc (Below.refl _ _) _
  exact (words_any _ _ cs.length cs 0 none 0 [] none 0 [] hC (ht.below b0) (EffsIn.nil _) (BanksIn.nil _) (by decide) (by decide) 50 50 _ hw).mono fun e w' h => ⟨h.2, b_then b0 h.1⟩

/-- A word's first instruction's and call's cells; the words as Order takes them. -/
theorem Reps.lreps {w : World} {base : Nat} : ∀ {ts : List WT} {ws : List FW}, Reps w base ts ws → (∀ x ∈ ws, x.calls.length ≤ 1000000000000) → LReps w ts (ws.map fun x => (x.at_, x.calls))
  | [], [], _, _ => ⟨rfl, fun i h1 _ => by simp at h1⟩
  | t :: ts, x :: ws, h, hl => by
    have ih := Reps.lreps h.2 (fun y hy => hl y (List.mem_cons_of_mem _ hy))
    refine ⟨by simp [ih.len], fun i h1 h2 => ?_⟩
    cases i with
    | zero =>
      have r : RowU w base (.slice t.ca t.cl t.cc) x.calls := h.1.rowc
      obtain ⟨A, c, e⟩ := h.1.rowc.slice
      have e' : Value.slice t.ca t.cl t.cc = .slice A x.calls.length c := e
      injection e' with e1 e2 e3
      refine ⟨h.1.at_, e2, ?_⟩
      exact r.atsIn (hl x List.mem_cons_self)
    | succ i => exact ih.rep i (by simpa using h1) (by simpa using h2)
theorem order_bad (w : World) (v : Value) (b0 : Nat) (ts : List WT) (xs : List (Int × List Int)) (hv : RowW w b0 v ts) (hr : LReps w ts xs) (hl : xs.length ≤ 20000) (k : Nat) (a : Int) (hw : ord k xs [] = some (.error a)) :
    Calls Tryd.prog 26 #[v] w fun e w' => e = .returned (.tuple #[.slice none 0 0, .agg #[.int .i64 163, .int .u16 a]]) ∧ Below w.heap.size w w' :=
  (order_some w v b0 ts xs hv hr hl k _ hw).mono fun e w' h => ⟨h.2, h.1⟩
theorem order_nil (w : World) : Calls Tryd.prog 26 #[.slice none 0 0] w fun e w' => (∃ v, e = .returned (.tuple #[v, .agg #[.int .i64 0, .int .u16 0]]) ∧ RowU w' w.heap.size v []) ∧ Below w.heap.size w w' :=
  (order_some w (.slice none 0 0) 0 [] [] (by unfold RowW; exact World.ownsRow_nil _ _ _ _) ⟨rfl, fun i h _ => by simp at h⟩ (by simp) 5 _ (show ord 5 [] [] = some (.ok []) from rfl)).mono fun e w' h => ⟨h.2, h.1⟩
end Go.Proofs.YtabeljpnmmfpgaaDoor

namespace Go.Proofs.YtabeljpnmmfpgaaDoor
open Go.RowKit Go.MapKept Go.Maps Go.Sort
set_option linter.unusedVariables false
set_option linter.unusedSimpArgs false

theorem bestOf_rdy (T : List Int) (l : List (Int × List Int)) : ∀ (n k : Nat), bestOf T l n = some k → rdy T (l.getD k (0, [])) = true
  | 0, k, h => by cases h
  | n + 1, k, h => by
    rw [bestOf_succ] at h
    unfold bestStep at h
    split at h
    · rename_i hc
      cases h
      simp only [Bool.and_eq_true] at hc
      exact hc.1
    · exact bestOf_rdy T l n k h
theorem bestOf_none (T : List Int) (l : List (Int × List Int)) : ∀ (n : Nat), bestOf T l n = none → ∀ i, i < n → rdy T (l.getD i (0, [])) = false
  | 0, _, i, hi => by omega
  | n + 1, h, i, hi => by
    rw [bestOf_succ] at h
    unfold bestStep at h
    split at h
    · cases h
    · rename_i hc
      by_cases e : i = n
      · subst e
        rw [h] at hc
        simpa [better] using hc
      · exact bestOf_none T l n h i (by omega)
/-- What is chosen is the least of the ready. -/
theorem bestOf_least (T : List Int) (l : List (Int × List Int)) : ∀ (n k : Nat), bestOf T l n = some k → ∀ i, i < n → rdy T (l.getD i (0, [])) = true → (l.getD k (0, [])).1 ≤ (l.getD i (0, [])).1
  | 0, k, h, i, hi, _ => by omega
  | n + 1, k, h, i, hi, hr => by
    rw [bestOf_succ] at h
    unfold bestStep at h
    split at h
    · rename_i hc
      cases h
      simp only [Bool.and_eq_true] at hc
      by_cases e : i = n
      · subst e; exact Int.le_refl _
      · cases hb : bestOf T l n with
        | none => have := bestOf_none T l n hb i (by omega); rw [hr] at this; cases this
        | some k' =>
          have h1 := bestOf_least T l n k' hb i (by omega) hr
          have h2 := hc.2
          rw [hb] at h2
          simp only [better, decide_eq_true_eq] at h2
          omega
    · rename_i hc
      by_cases e : i = n
      · subst e
        rw [h, hr] at hc
        simp only [better, Bool.true_and, decide_eq_true_eq] at hc
        omega
      · exact bestOf_least T l n k h i (by omega) hr
theorem rdy_iff (T : List Int) (x : Int × List Int) : rdy T x = true ↔ x.1 ∉ T ∧ ∀ y ∈ x.2, y ∈ T := by
  unfold rdy
  simp
theorem ord_some : ∀ (k : Nat) (l : List (Int × List Int)) (out : List Int), l.length < k → ∃ r, ord k l out = some r
  | 0, l, out, h => by omega
  | k + 1, l, out, h => by
    unfold ord
    split
    · exact ⟨_, rfl⟩
    · split
      · exact ⟨_, rfl⟩
      · rename_i b hb
        have := bestOf_lt _ _ _ _ hb
        exact ord_some k _ _ (by rw [List.length_eraseIdx_of_lt this]; omega)
theorem getD_lt {l : List (Int × List Int)} {b : Nat} (h : b < l.length) : l.getD b (0, []) = l[b] := by rw [List.getD_eq_getElem?_getD, List.getElem?_eq_getElem h]; rfl
theorem perm_erase {l : List (Int × List Int)} {b : Nat} (h : b < l.length) : l.Perm (l[b] :: l.eraseIdx b) := by
  rw [List.eraseIdx_eq_take_drop_succ]
  have e : l = l.take b ++ l[b] :: l.drop (b + 1) := by rw [← List.drop_eq_getElem_cons h, List.take_append_drop]
  have e2 : l[b] :: (l.take b ++ l.drop (b + 1)) = l[b] :: (l.take b ++ l.drop (b + 1)) := rfl
  exact (List.Perm.of_eq e).trans List.perm_middle
theorem ord_perm : ∀ (k : Nat) (l : List (Int × List Int)) (out r : List Int), ord k l out = some (.ok r) → r.Perm (out ++ l.map (·.1))
  | 0, _, _, _, h => by cases h
  | k + 1, l, out, r, h => by
    unfold ord at h
    split at h
    · rename_i h0
      obtain rfl := List.eq_nil_of_length_eq_zero h0
      cases h
      simp
    · split at h
      · cases h
      · rename_i b hb
        have hl := bestOf_lt _ _ _ _ hb
        rw [getD_lt hl] at h
        refine (ord_perm k _ _ r h).trans ?_
        rw [List.append_assoc]
        refine List.Perm.append_left _ ?_
        exact ((perm_erase hl).map (·.1)).symm
theorem ord_nodup : ∀ (k : Nat) (l : List (Int × List Int)) (out r : List Int), out.Nodup → ord k l out = some (.ok r) → r.Nodup
  | 0, _, _, _, _, h => by cases h
  | k + 1, l, out, r, hn, h => by
    unfold ord at h
    split at h
    · cases h; exact hn
    · split at h
      · cases h
      · rename_i b hb
        have hl := bestOf_lt _ _ _ _ hb
        have hr := (rdy_iff _ _).1 (bestOf_rdy _ _ _ _ hb)
        refine ord_nodup k _ _ r ?_ h
        refine List.nodup_append.2 ⟨hn, by simp, fun a ha c hc e => ?_⟩
        simp only [List.mem_singleton] at hc
        subst e hc
        exact hr.1 ha
theorem ord_err : ∀ (k : Nat) (l : List (Int × List Int)) (out : List Int) (a : Int), ord k l out = some (.error a) → ∃ x ∈ l, x.1 = a
  | 0, _, _, _, h => by cases h
  | k + 1, l, out, a, h => by
    unfold ord at h
    split at h
    · cases h
    · rename_i h0
      split at h
      · cases h
        have key : ∀ n, n ≤ l.length → ∃ x ∈ l, x.1 = minAt l n := by
          intro n
          induction n with
          | zero =>
            intro _
            have h1 : 0 < l.length := by omega
            exact ⟨l[0], List.getElem_mem _, by unfold minAt; rw [getD_lt h1]; rfl⟩
          | succ n ih =>
            intro hn
            rw [minAt_succ l n (by omega)]
            split
            · exact ⟨_, List.getElem_mem _, rfl⟩
            · exact ih (by omega)
        exact key _ (Nat.le_refl _)
      · rename_i b hb
        obtain ⟨x, hx, e⟩ := ord_err k _ _ a h
        exact ⟨x, List.mem_of_mem_eraseIdx hx, e⟩
theorem ord_prefix : ∀ (k : Nat) (l : List (Int × List Int)) (out r : List Int), ord k l out = some (.ok r) → ∃ s, r = out ++ s
  | 0, _, _, _, h => by cases h
  | k + 1, l, out, r, h => by
    unfold ord at h
    split at h
    · cases h; exact ⟨[], by simp⟩
    · split at h
      · cases h
      · obtain ⟨s, hs⟩ := ord_prefix k _ _ r h
        exact ⟨_, by rw [hs, List.append_assoc]⟩
theorem mem_erase_or {l : List (Int × List Int)} {b : Nat} (hb : b < l.length) {x : Int × List Int} (h : x ∈ l) : x = l[b] ∨ x ∈ l.eraseIdx b := by
  have := (perm_erase hb).mem_iff.1 h
  exact List.mem_cons.1 this
/-- Each word stands behind all that it calls. -/
theorem ord_behind : ∀ (k : Nat) (l : List (Int × List Int)) (out r : List Int), ord k l out = some (.ok r) → ∀ x ∈ l, ∃ j, r[j]? = some x.1 ∧ ∀ c ∈ x.2, c ∈ r.take j
  | 0, _, _, _, h => by cases h
  | k + 1, l, out, r, h => by
    unfold ord at h
    split at h
    · rename_i h0
      obtain rfl := List.eq_nil_of_length_eq_zero h0
      intro x hx; cases hx
    · split at h
      · cases h
      · rename_i b hb
        have hl := bestOf_lt _ _ _ _ hb
        have hr := (rdy_iff _ _).1 (bestOf_rdy _ _ _ _ hb)
        rw [getD_lt hl] at h hr
        intro x hx
        rcases mem_erase_or hl hx with rfl | hx
        · obtain ⟨s, hs⟩ := ord_prefix k _ _ r h
          refine ⟨out.length, ?_, fun c hc => ?_⟩
          · rw [hs, List.append_assoc, List.getElem?_append_right (Nat.le_refl _)]
            simp
          · rw [hs, List.append_assoc, List.take_left]
            exact hr.2 c hc
        · exact ord_behind k _ _ r h x hx
/-- Words that call none, no two of one address: they come by their addresses. -/
theorem ord_rise : ∀ (k : Nat) (l : List (Int × List Int)) (out : List Int), l.length < k → (∀ x ∈ l, x.2 = []) → (out ++ l.map (·.1)).Nodup → (∀ a ∈ out, ∀ x ∈ l, a < x.1) → out.Pairwise (· < ·) →
    ∃ r, ord k l out = some (.ok r) ∧ r.Pairwise (· < ·)
  | 0, l, out, h, _, _, _, _ => by omega
  | k + 1, l, out, h, hc, hn, ho, hp => by
    unfold ord
    by_cases h0 : l.length = 0
    · rw [if_pos h0]; exact ⟨out, rfl, hp⟩
    · rw [if_neg h0]
      have hd := (List.nodup_append.1 hn).2.2
      have hready : ∀ i (hi : i < l.length), rdy out (l.getD i (0, [])) = true := fun i hi => by
        rw [getD_lt hi, rdy_iff]
        refine ⟨fun hm => hd _ hm _ (List.mem_map.2 ⟨_, List.getElem_mem hi, rfl⟩) rfl, ?_⟩
        rw [hc _ (List.getElem_mem hi)]
        simp
      cases hb : bestOf out l l.length with
      | none =>
        have := bestOf_none out l _ hb 0 (by omega)
        rw [hready 0 (by omega)] at this
        cases this
      | some b =>
        have hl := bestOf_lt _ _ _ _ hb
        have least : ∀ x ∈ l, (l[b]).1 ≤ x.1 := fun x hx => by
          obtain ⟨i, hi, rfl⟩ := List.getElem_of_mem hx
          have := bestOf_least out l _ b hb i hi (hready i hi)
          rwa [getD_lt hl, getD_lt hi] at this
        dsimp only
        rw [getD_lt hl]
        have hpm := (perm_erase hl).map (·.1)
        have nd : (l[b] :: l.eraseIdx b |>.map (·.1)).Nodup := hpm.nodup_iff.1 (List.nodup_append.1 hn).2.1
        rw [List.map_cons, List.nodup_cons] at nd
        refine ord_rise k _ _ (by rw [List.length_eraseIdx_of_lt hl]; omega) (fun x hx => hc x (List.mem_of_mem_eraseIdx hx)) ?_ ?_ ?_
        · rw [List.append_assoc]
          exact (List.Perm.append_left out hpm).nodup_iff.1 hn
        · intro a ha x hx
          have hx' := List.mem_of_mem_eraseIdx hx
          rcases List.mem_append.1 ha with ha | ha
          · exact ho a ha x hx'
          · simp only [List.mem_singleton] at ha
            subst ha
            have h1 := least x hx'
            have h2 : (l[b]).1 ≠ x.1 := fun e => nd.1 (by rw [e]; exact List.mem_map.2 ⟨x, hx, rfl⟩)
            omega
        · refine List.pairwise_append.2 ⟨hp, by simp, fun a ha c hc' => ?_⟩
          simp only [List.mem_singleton] at hc'
          subst hc'
          exact ho a ha _ (List.getElem_mem hl)
end Go.Proofs.YtabeljpnmmfpgaaDoor

namespace Go.Proofs.YtabeljpnmmfpgaaDoor
open Go.RowKit Go.MapKept Go.Maps Go.Sort
set_option linter.unusedVariables false
set_option linter.unusedSimpArgs false

def WT.bare (t : WT) : WT := { t with ca := none, cl := 0, cc := 0 }
theorem flat3_bare : ∀ (l : List WT) (i : Nat) (hi : i < l.length), (l.set i (l[i]).bare).flatMap WT.cells = (l.flatMap WT.cells).set (i * 3 + 2) (.slice none 0 0)
  | x :: l, 0, _ => by
    simp only [List.set_cons_zero, List.flatMap_cons, List.getElem_cons_zero]
    rfl
  | x :: l, i + 1, hi => by
    have h3 : x.cells.length = 3 := rfl
    simp only [List.set_cons_succ, List.flatMap_cons, List.getElem_cons_succ]
    rw [flat3_bare l i (by simpa using hi), List.set_append_right _ _ (by rw [h3]; omega), h3, show (i + 1) * 3 + 2 - 3 = i * 3 + 2 by omega]
theorem RowW.strike {w : World} {base g n c : Nat} {l : List WT} (h : RowW w base (.slice (some ⟨g, 0, none⟩) n c) l) (i : Nat) (hi : i < l.length) :
    RowW (w.setCell ⟨g, i * 3 + 2, none⟩ (.slice none 0 0)) base (.slice (some ⟨g, 0, none⟩) n c) (l.set i (l[i]).bare) := by
  obtain ⟨h1, h2⟩ := h
  unfold RowW
  rw [List.length_set]
  refine ⟨?_, .inr ?_⟩
  · rw [flat3_len, List.length_set]
  · rcases h2 with ⟨e, _⟩ | ⟨g', cap, cur, e, hg, hh, k1, k2, k3, k4⟩
    · cases e
    · cases e
      refine ⟨g, c, cur.setIfInBounds (i * 3 + 2) (.slice none 0 0), rfl, hg, heap_set_cell hh _ _, k1, k2, by simpa using k3, ?_⟩
      rw [flat3_bare l i hi, ← k4, Array.toList_setIfInBounds, List.take_set]
/-! ### the plain law -/
def tw (l : List Int) (i : Nat) : Bool := (List.range i).any fun p => (List.range p).any fun q => decide (l.getD p 0 = l.getD q 0)
def twi (l : List Int) (i j : Nat) : Bool := (List.range j).any fun q => decide (l.getD i 0 = l.getD q 0)
theorem tw_succ (l : List Int) (i : Nat) : tw l (i + 1) = (tw l i || twi l i i) := by
  unfold tw twi
  rw [List.range_succ, List.any_append]
  simp
theorem twi_succ (l : List Int) (i j : Nat) : twi l i (j + 1) = (twi l i j || decide (l.getD i 0 = l.getD j 0)) := by
  unfold twi
  rw [List.range_succ, List.any_append]
  simp
theorem tw_false {l : List Int} (h : tw l l.length = false) : l.Nodup := by
  refine List.pairwise_iff_getElem.2 fun i j hi hj hij e => ?_
  have : tw l l.length = true := by
    unfold tw
    refine List.any_eq_true.2 ⟨j, List.mem_range.2 hj, List.any_eq_true.2 ⟨i, List.mem_range.2 hij, ?_⟩⟩
    rw [List.getD_eq_getElem?_getD, List.getD_eq_getElem?_getD, List.getElem?_eq_getElem hi, List.getElem?_eq_getElem hj]
    simpa using e.symm
  rw [h] at this
  cases this
theorem tw_true {l : List Int} (h : tw l l.length = true) : ¬ l.Nodup := by
  intro hn
  unfold tw at h
  obtain ⟨p, hp, h1⟩ := List.any_eq_true.1 h
  obtain ⟨q, hq, h2⟩ := List.any_eq_true.1 h1
  have hp' := List.mem_range.1 hp
  have hq' := List.mem_range.1 hq
  have e := (List.getD_inj (fallback := (0 : Int)) hp' (Nat.lt_trans hq' hp') hn).1 (of_decide_eq_true h2)
  omega
/-- An order that is told: as the law asks. -/
structure BehOk (xs : List (Int × List Int)) (out : List Int) : Prop where
  len : out.length = xs.length
  nd : out.Nodup
  at_ : ∀ (i : Nat) (hi : i < xs.length), ∃ k0, ∃ h : k0 < out.length, out[k0] = (xs[i]).1 ∧ ∀ c ∈ (xs[i]).2, c ∈ out.take k0
theorem behOk {k : Nat} {xs : List (Int × List Int)} {out : List Int} (h : ord k xs [] = some (.ok out)) : BehOk xs out := by
  refine ⟨?_, ord_nodup _ _ _ _ List.nodup_nil h, fun i hi => ?_⟩
  · have := (ord_perm _ _ _ _ h).length_eq
    simpa using this
  · obtain ⟨j, h1, h2⟩ := ord_behind _ _ _ _ h _ (List.getElem_mem hi)
    obtain ⟨h3, h4⟩ := List.getElem?_eq_some_iff.1 h1
    exact ⟨j, h3, h4, h2⟩
theorem BehOk.dup {xs : List (Int × List Int)} {out : List Int} (h : BehOk xs out) (hp : out.Perm (xs.map (·.1))) : (xs.map (·.1)).Nodup := hp.nodup_iff.1 h.nd
/-- What is told once the calls are struck. -/
theorem bare_ord (k : Nat) (us : List Int) (hk : us.length < k) : (tw us us.length = true → ∃ a, ord k (us.map fun a => (a, [])) [] = some (.error a)) ∧
    (tw us us.length = false → ∃ r, ord k (us.map fun a => (a, [])) [] = some (.ok r) ∧ r.Pairwise (· < ·) ∧ r.length = us.length) := by
  have em : (us.map fun a => ((a, []) : Int × List Int)).map (·.1) = us := by rw [List.map_map]; exact List.map_id _
  constructor
  · intro h
    obtain ⟨r, hr⟩ := ord_some k (us.map fun a => (a, [])) [] (by simpa using hk)
    cases r with
    | error a => exact ⟨a, hr⟩
    | ok r =>
      refine absurd ?_ (tw_true h)
      have := (behOk hr).dup (by simpa using ord_perm _ _ _ _ hr)
      rwa [em] at this
  · intro h
    obtain ⟨r, hr, hp⟩ := ord_rise k (us.map fun a => (a, [])) [] (by simpa using hk) (by intro x hx; obtain ⟨a, _, rfl⟩ := List.mem_map.1 hx; rfl) (by rw [List.nil_append, em]; exact tw_false h) (by simp) List.Pairwise.nil
    exact ⟨r, hr, hp, by have := (behOk hr).len; simpa using this⟩
/-- The place in o that is told for an address, when j of o are looked at. -/
def kAt (k0 j : Nat) : Int := if j ≤ k0 then -1 else (k0 : Int)
end Go.Proofs.YtabeljpnmmfpgaaDoor

namespace Go.Proofs.YtabeljpnmmfpgaaDoor
open Go.RowKit Go.MapKept Go.Maps Go.Sort
set_option linter.unusedVariables false
set_option linter.unusedSimpArgs false

/-- A verdict as it lies. -/
def VdAt (W : World) (b : Nat) (z a : Int) : Prop := W.heap[b]? = some (.cells #[.int .i64 z, .int .u16 a] 33 (0, 0))
theorem VdAt.fresh (W : World) (z a : Int) : VdAt (W.alloc (.cells #[.int .i64 z, .int .u16 a] 33)) W.heap.size z a := heap_alloc_at W _
theorem VdAt.below {W W' : World} {b : Nat} {z a : Int} (h : VdAt W b z a) (hb : Below W.heap.size W W') : VdAt W' b z a := (hb.block b (heap_lt h)).trans h
theorem VdAt.c0 {W : World} {b : Nat} {z a : Int} (h : VdAt W b z a) : W.cell? ⟨b, 0, none⟩ = some (.int .i64 z) := by rw [cell_of h]; rfl
theorem VdAt.c1 {W : World} {b : Nat} {z a : Int} (h : VdAt W b z a) : W.cell? ⟨b, 1, none⟩ = some (.int .u16 a) := by rw [cell_of h]; rfl
theorem FWin.c0 {w : World} {A : Option Addr} {l : List FW} (h : FWin w A l) {k : Nat} (hk : k < l.length) : ∃ b off, A = some ⟨b, off, none⟩ ∧ w.cell? ⟨b, off + k * 3, none⟩ = some (.int .u16 (l[k]).at_) := by
  obtain ⟨b, off, ia, ic, ca, cc, e, q⟩ := h k hk
  exact ⟨b, off, e, q.c0⟩
/-- The words as Order takes them. -/
def ordArg (l : List FW) : List (Int × List Int) := l.map fun x => (x.at_, x.calls)
theorem conv_row {w W : World} {g cap : Nat} {ts : List WT} {l : List FW} (tl : ts.length = l.length)
    (h : W.ownsRow w.heap.size 53 3 (.slice (some ⟨g, 0, none⟩) (l.length + 1) cap) (l.length + 1) (ts.flatMap WT.cells ++ [.int .u16 7777, .slice none 0 0, .slice none 0 0])) :
    RowW W w.heap.size (.slice (some ⟨g, 0, none⟩) l.length cap) ts := by
  have := ownsRow_cut h (by rw [flat3_len, tl])
  unfold RowW
  rw [tl]; exact this
theorem conv_lreps {w W : World} {ts : List WT} {l : List FW} (tl : ts.length = l.length) (cv : ∀ (i : Nat) (h1 : i < ts.length) (h2 : i < l.length), CvW W w.heap.size ts[i] l[i]) (hs : ∀ x ∈ l, x.calls.length ≤ 2000000) :
    LReps W ts (ordArg l) := by
  refine ⟨by simp [ordArg, tl], fun i h1 h2 => ?_⟩
  have h3 : i < l.length := by rw [← tl]; exact h1
  have q := cv i h1 h3
  have r := q.wrep.rowc
  have e : (ordArg l)[i] = ((l[i]).at_, (l[i]).calls) := by simp [ordArg]
  rw [e]
  exact ⟨q.at_, q.cl, RowU.atsIn (by unfold RowU WT.vc at r; exact r) (by have := hs _ (List.getElem_mem h3); show (l[i]).calls.length ≤ _; omega)⟩
theorem bare_lreps (W : World) (ts : List WT) (l : List FW) (tl : ts.length = l.length) (ha : ∀ (i : Nat) (h1 : i < ts.length) (h2 : i < l.length), ((ts[i]).at_.val : Int) = (l[i]).at_) :
    LReps W (ts.map WT.bare) ((l.map FW.at_).map fun a => (a, [])) := by
  refine ⟨by simp [tl], fun i h1 h2 => ?_⟩
  have h3 : i < l.length := by simpa using h2
  have h4 : i < ts.length := by omega
  have e1 : (ts.map WT.bare)[i] = (ts[i]).bare := by simp
  have e2 : ((l.map FW.at_).map fun a => ((a, []) : Int × List Int))[i] = ((l[i]).at_, []) := by simp
  rw [e1, e2]
  exact ⟨ha i h4 h3, rfl, ⟨by simp, fun j hj => by simp at hj⟩⟩
/-- The words whose first k have lost their calls. -/
def bareN (ts : List WT) (k : Nat) : List WT := (ts.take k).map WT.bare ++ ts.drop k
theorem bareN_zero (ts : List WT) : bareN ts 0 = ts := by simp [bareN]
theorem bareN_len (ts : List WT) (k : Nat) : (bareN ts k).length = ts.length := by simp [bareN]; omega
theorem bareN_all (ts : List WT) : bareN ts ts.length = ts.map WT.bare := by simp [bareN]
theorem bareN_at {ts : List WT} {k : Nat} (hk : k < ts.length) : (bareN ts k)[k]'(by rw [bareN_len]; exact hk) = ts[k] := by
  unfold bareN
  rw [List.getElem_append_right (by simp; omega)]
  simp [Nat.min_eq_left (Nat.le_of_lt hk)]
theorem bareN_succ {ts : List WT} {k : Nat} (hk : k < ts.length) : (bareN ts k).set k ((bareN ts k)[k]'(by rw [bareN_len]; exact hk)).bare = bareN ts (k + 1) := by
  rw [bareN_at hk]
  unfold bareN
  have hl : ((ts.take k).map WT.bare).length = k := by simp; omega
  rw [List.set_append_right _ _ (by omega), hl, Nat.sub_self, List.drop_eq_getElem_cons hk, List.set_cons_zero, ← List.take_append_getElem hk, List.map_append, List.append_assoc]
  rfl
theorem strikeN {w : World} {base g n c : Nat} {ts : List WT} {k : Nat} (h : RowW w base (.slice (some ⟨g, 0, none⟩) n c) (bareN ts k)) (hk : k < ts.length) :
    RowW (w.setCell ⟨g, k * 3 + 2, none⟩ (.slice none 0 0)) base (.slice (some ⟨g, 0, none⟩) n c) (bareN ts (k + 1)) := by
  have := h.strike k (by rw [bareN_len]; exact hk)
  rwa [bareN_succ hk] at this
/-- Is the address among the words? -/
def isAt (a : Int) (l : List FW) : Bool := l.any fun x => decide (x.at_ = a)
theorem isAt_snoc (a : Int) (l : List FW) (x : FW) : isAt a (l ++ [x]) = (isAt a l || decide (x.at_ = a)) := by unfold isAt; rw [List.any_append]; simp
theorem isAt_take {a : Int} {l : List FW} {k : Nat} (hk : k < l.length) : isAt a (l.take (k + 1)) = (isAt a (l.take k) || decide ((l[k]).at_ = a)) := by rw [← List.take_append_getElem hk, isAt_snoc]
theorem isAt_all {a : Int} {l : List FW} {k : Nat} (h : ord k (ordArg l) [] = some (.error a)) : isAt a l = true := by
  obtain ⟨x, hx, e⟩ := ord_err _ _ _ _ h
  obtain ⟨y, hy, rfl⟩ := List.mem_map.1 hx
  exact List.any_eq_true.2 ⟨y, hy, by simpa using e⟩
theorem getD_at {l : List FW} {k : Nat} (hk : k < l.length) : (l.map FW.at_).getD k 0 = (l[k]).at_ := by
  rw [List.getD_eq_getElem?_getD, List.getElem?_map, List.getElem?_eq_getElem hk]; rfl
end Go.Proofs.YtabeljpnmmfpgaaDoor
