/-
  slices.Clone of tones, (*mem.Memory).Tones; own and ownBanks of the law.
-/
import Derived.Test.YtabeljpnmmfpgaaMemNew
import Derived.Laws.AppendOwnNone
namespace Go.Proofs.Ytabeljpnmmfpgaa
open Go.RowKit Go.MapKept
set_option linter.unusedVariables false
set_option linter.unusedSimpArgs false

theorem add_plain' (g o j : Nat) : (⟨g, o, none⟩ : Addr).add j = ⟨g, o + j, none⟩ := by unfold Addr.add; split <;> simp_all

theorem toneCells_one (l : List (Int × Int × Int)) : ∀ u ∈ toneCells l, u.oneCell' = true := by
  intro u hu
  unfold toneCells at hu
  obtain ⟨t, _, h⟩ := List.mem_flatMap.1 hu
  simp only [List.mem_cons, List.not_mem_nil, or_false] at h
  rcases h with rfl | rfl | rfl <;> rfl

set_option maxRecDepth 100000 in
theorem cloneTones_any (w : World) (base : Nat) (v : Value) (l : List (Int × Int × Int)) (hl : l.length < 1000000000) (hown : w.ownsRow base 92 3 v l.length (toneCells l)) :
    Calls Try.prog 43 #[v] w fun e w' => ∃ v', e = .returned v' ∧ w'.ownsRow w.heap.size 92 3 v' l.length (toneCells l) ∧ Below w.heap.size w w' := by
  obtain ⟨i0, hi, hz0, hz1, hz2⟩ := info_parts infoTone
  rcases hown.2 with ⟨rfl, h0⟩ | ⟨g, cap, cur, rfl, hg, hh, hc1, hc2, hc3, hc4⟩
  · have he := Lib.run_eql_slice_nil (P := Try.prog) w 55 92 none 0 0 0 0 Try.underlying55
    have hl0 : l = [] := List.eq_nil_of_length_eq_zero h0
    subst hl0
    clear h0 hown
    have fin : Hid (w.ownsRow w.heap.size 92 3 (.slice none 0 0) ([] : List (Int × Int × Int)).length (toneCells [])) := World.ownsRow_nil _ _ _ _
    go_enter Try.func43, Try.ntmps43
    go_wp2_with (fail)
    go_ret
    exact ⟨_, rfl, fin.out, Below.refl _ _⟩
  · have he := Lib.run_eql_slice_nil (P := Try.prog) w 55 92 (some ⟨g, 0, none⟩) l.length cap 0 0 Try.underlying55
    have Hn : Hid (∀ j u, (toneCells l)[j]? = some u → (w.alloc (.cells #[] 92)).cell? ((⟨g, 0, none⟩ : Addr).add j) = some u) := by
      intro j u hj
      rw [add_plain', Nat.zero_add]
      have : (w.alloc (.cells #[] 92)).heap[g]? = some (.cells cur 92 (0, 0)) := heap_alloc_old hh
      rw [cell_of this, ← Array.getElem?_toList]
      rw [← hc4, List.getElem?_take] at hj
      split at hj
      · exact hj
      · cases hj
    have H1 := Lib.hid (toneCells_one l)
    have HL := Lib.hid (toneCells_length l)
    have own0 : Hid ((w.alloc (.cells #[] 92)).ownsRow w.heap.size 92 3 (.slice (some ⟨w.heap.size, 0, none⟩) 0 0) 0 []) := World.ownsRow_made _ _ 0 (Nat.le_refl _) (by simp [maxLen]) (by simp)
    have fin : Hid (∀ (v' : Value) (w1 : World), w1.ownsRow w.heap.size 92 3 v' (0 + l.length) ([] ++ toneCells l) → (w.alloc (.cells #[] 92)).grownBy w1 (some w.heap.size) → w1.ownsRow w.heap.size 92 3 v' l.length (toneCells l) ∧ Below w.heap.size w w1) := by
      intro v' w1 h1 h2
      refine ⟨by simpa using h1, ((Below.refl _ _).alloc (Nat.le_refl _) _).grown h2 (by simp) (fun k hk => by cases hk; exact Nat.le_refl _)⟩
    clear hh hc1 hc2 hc3 hc4 hown hg
    go_enter Try.func43, Try.ntmps43
    go_wp2_with (at_builtin; refine wpList_append_own _ rfl _ _ 55 rfl w.heap.size 92 i0 _ 3 16 Try.underlying55 hi hz0 hz1 hz2 rfl (by decide) _ 0 [] rfl own0.out ⟨g, 0, none⟩ l.length cap (toneCells l) rfl HL.out Hn.out H1.out (by simp only [maxLen]; omega) (by omega) (by simp) ?_; intro v' w1 ho hgr _; obtain ⟨f1, f2⟩ := fin.out v' w1 ho hgr; clear ho hgr)
    go_ret
    exact ⟨_, rfl, f1, f2⟩

theorem tones_nil (w : World) : Calls Try.prog 23 #[.pointer none] w fun e w' => e = .returned (.slice none 0 0) ∧ w' = w := by
  go_enter Try.func23, Try.ntmps23
  go_wp2
  go_ret
  exact ⟨rfl, rfl⟩

theorem tones_rep {b : Nat} {M : Mm} {S : Nat → Prop} {w : World} (h : MemRep w b M S) (hl : M.tones.length < 1000000000) :
    Calls Try.prog 23 #[.pointer (some ⟨b, 0, none⟩)] w fun e w' => ∃ v', e = .returned v' ∧ w'.ownsRow w.heap.size 92 3 v' M.tones.length (toneCells M.tones) ∧ Below w.heap.size w w' := by
  obtain ⟨cs, bm, es, clk, bf, tv, H⟩ := h
  have hc : w.cell? ⟨b, 19463, none⟩ = some tv := by rw [H.at_ 19463 (by omega)]; rfl
  have hct := Lib.hid (cloneTones_any w 0 tv M.tones hl H.tones)
  clear H
  go_enter Try.func23, Try.ntmps23
  go_wp2_with (fail)
  refine hct.out.mono ?_
  rintro e w1 ⟨v', rfl, h1, h2⟩
  go_wp2_with (fail)
  go_ret
  exact ⟨_, rfl, h1, h2⟩
end Go.Proofs.Ytabeljpnmmfpgaa
