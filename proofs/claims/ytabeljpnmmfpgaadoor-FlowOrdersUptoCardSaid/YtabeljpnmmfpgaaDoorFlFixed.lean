/-
  The first worked example.
-/
import Derived.Laws.StructEq
import Derived.Test.YtabeljpnmmfpgaaDoorFlFix
namespace Go.Proofs.YtabeljpnmmfpgaaDoor
open Go.RowKit Go.MapKept Go.Maps Go.Sort
set_option linter.unusedVariables false
set_option linter.unusedSimpArgs false

theorem Reps.at_ {w : World} {base : Nat} : ∀ {ts : List WT} {ws : List FW}, Reps w base ts ws → ∀ (i : Nat) (hi : i < ws.length), ∃ ht : i < ts.length, WRep w base ts[i] ws[i]
  | [], [], _, i, hi => by simp at hi
  | t :: ts, x :: ws, h, 0, _ => ⟨by simp, h.1⟩
  | t :: ts, x :: ws, h, i + 1, hi => by
    obtain ⟨h1, h2⟩ := Reps.at_ h.2 i (by simpa using hi)
    exact ⟨by simpa using h1, h2⟩
/-- A word that is read. -/
theorem WordsAt.at_ {W : World} {base : Nat} {v : Value} {ts : List WT} {ws : List FW} (h : WordsAt W base v ts ws) (i : Nat) (hi : i < ws.length) :
    ∃ g cap ia ic ca cc, v = .slice (some ⟨g, 0, none⟩) ws.length cap ∧ W.cell? ⟨g, i * 3, none⟩ = some (.int .u16 (ws[i]).at_) ∧ W.cell? ⟨g, i * 3 + 1, none⟩ = some (.slice ia (ws[i]).instrs.length ic) ∧ W.cell? ⟨g, i * 3 + 2, none⟩ = some (.slice ca (ws[i]).calls.length cc) ∧
      RowI W base (.slice ia (ws[i]).instrs.length ic) (ws[i]).instrs ∧ RowU W base (.slice ca (ws[i]).calls.length cc) (ws[i]).calls := by
  obtain ⟨ht, hr⟩ := h.reps.at_ i hi
  have hl := h.reps.len
  have h' : W.ownsRow base 53 3 v ts.length (ts.flatMap WT.cells) := h.row
  rcases h'.2 with ⟨e, hn⟩ | ⟨g, cap, cur, e, hg, _⟩
  · omega
  · subst e
    have key : ∀ k u, k < 3 → (ts[i]).cells[k]? = some u → W.cell? ⟨g, i * 3 + k, none⟩ = some u := fun k u hk hu => by
      have := h'.cells (g := g) rfl (i * 3 + k) u (by rw [flat3 ts i k ht hk]; exact hu)
      have e : (⟨g, 0, none⟩ : Addr).add (i * 3 + k) = ⟨g, i * 3 + k, none⟩ := by unfold Addr.add; split <;> simp_all
      rwa [e] at this
    obtain ⟨ia, ic, ei⟩ := hr.rowi.slice
    obtain ⟨ca, cc, ec⟩ := hr.rowc.slice
    have r1 := hr.rowi
    have r2 := hr.rowc
    rw [ei] at r1
    rw [ec] at r2
    refine ⟨g, cap, ia, ic, ca, cc, by rw [hl], ?_, ?_, ?_, r1, r2⟩
    · rw [← hr.at_]; exact key 0 _ (by decide) rfl
    · rw [← ei]; exact key 1 _ (by decide) rfl
    · rw [← ec]; exact key 2 _ (by decide) rfl

set_option maxRecDepth 100000 in
set_option maxHeartbeats 4000000 in
theorem fixed_any (w : World) (ht : Tab w) : Calls Tryd.prog 9 #[] w fun e w' => e = .returned (.bool true) ∧ Below w.heap.size w w' := by
  have b0 : Below w.heap.size w (w.alloc (.cells #[.int .u16 1, .int .u16 16] 23)) := b_alloc (Below.refl _ _) _
  have AT := Lib.hid (at_any (w.alloc (.cells #[.int .u16 1, .int .u16 16] 23)) w.heap.size 2 2 [1, 16] (ht.below b0) rfl (by decide) (by decide) (fun i hi => by
    rw [cell_of (heap_alloc_at w _)]
    match i, hi with
    | 0, _ => rfl
    | 1, _ => rfl) 50 50 _ fixed_words)
  have B0 := Lib.hid b0
  clear ht b0
  go_enter Tryd.func9, Tryd.ntmps9
  go_wp2_with (fail)
  refine AT.out.mono ?_
  rintro e W1 ⟨p1, u, ts, rfl, p2⟩
  have B1 := Lib.hid (b_then B0.out p1)
  obtain ⟨g, cap, ia, ic, ca, cc, rfl, c0, c1, c2, ri, rc⟩ := p2.at_ 0 (by decide)
  obtain ⟨gi, rfl, d0, d1, d2, d3, d4⟩ := ri.at_ (i := 0) (by decide)
  clear AT p1 p2 ri rc B0
  simp only [Nat.zero_mul, Nat.zero_add, List.length_cons, List.length_nil, List.getElem_cons_zero] at c0 c1 c2 d0 d1 d2 d3 d4
  have c0 := cell_alloc_old (o := .cells #[.int .i64 0, .int .u16 0] 33) c0
  have c1 := cell_alloc_old (o := .cells #[.int .i64 0, .int .u16 0] 33) c1
  have c2 := cell_alloc_old (o := .cells #[.int .i64 0, .int .u16 0] 33) c2
  have d0 := cell_alloc_old (o := .cells #[.int .i64 0, .int .u16 0] 33) d0
  have d1 := cell_alloc_old (o := .cells #[.int .i64 0, .int .u16 0] 33) d1
  have d2 := cell_alloc_old (o := .cells #[.int .i64 0, .int .u16 0] 33) d2
  have d3 := cell_alloc_old (o := .cells #[.int .i64 0, .int .u16 0] 33) d3
  have d4 := cell_alloc_old (o := .cells #[.int .i64 0, .int .u16 0] 33) d4
  go_wp2_with (fail)
  go_ret
  exact ⟨rfl, b_alloc B1.out _⟩
end Go.Proofs.YtabeljpnmmfpgaaDoor
