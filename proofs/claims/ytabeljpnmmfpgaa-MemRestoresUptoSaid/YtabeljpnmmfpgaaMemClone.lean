/-
  slices.Clone of bytes.
-/
import Derived.Test.YtabeljpnmmfpgaaMemOwn
namespace Go.Proofs.Ytabeljpnmmfpgaa
open Go.RowKit Go.MapKept
set_option linter.unusedVariables false
set_option linter.unusedSimpArgs false

set_option maxRecDepth 100000 in
theorem cloneBytes_any (w : World) (v : Value) (l : List Int) (hl : l.length ≤ 140737488355328) (hb : BytesIn w v l) :
    Calls Try.prog 40 #[v] w fun e w' => ∃ v', e = .returned v' ∧ w'.ownsRow w.heap.size 5 1 v' l.length (byteCells l) ∧ Below w.heap.size w w' := by
  obtain ⟨i0, hi, hz0, hz1, hz2⟩ := info_parts infoU8
  obtain ⟨a, c, rfl, hcn, h2⟩ := hb
  cases a with
  | none =>
    have hl0 : l = [] := by
      cases l with
      | nil => rfl
      | cons x r => obtain ⟨_, _, h3, _⟩ := h2 (by simp); cases h3
    subst hl0
    obtain rfl := hcn rfl
    have he := Lib.run_eql_slice_nil (P := Try.prog) w 35 5 none 0 0 0 0 Try.underlying35
    have fin : Hid (w.ownsRow w.heap.size 5 1 (.slice none 0 0) ([] : List Int).length (byteCells [])) := World.ownsRow_nil _ _ _ _
    go_enter Try.func40, Try.ntmps40
    go_wp2_with (fail)
    go_ret
    exact ⟨_, rfl, fin.out, Below.refl _ _⟩
  | some ad =>
    have he := Lib.run_eql_slice_nil (P := Try.prog) w 35 5 (some ad) l.length c 0 0 Try.underlying35
    have Hn : Hid (∀ j u, (byteCells l)[j]? = some u → (w.alloc (.cells #[] 5)).cell? (ad.add j) = some u) := by
      intro j u hj
      obtain ⟨h1, rfl⟩ := byteCells_at hj
      obtain ⟨b, o, h3, h4⟩ := h2 (by omega)
      cases h3
      rw [addr_add]
      have := h4 j h1
      exact cell_keep (B := w.heap.size) ((Below.refl _ _).alloc (Nat.le_refl _) _) this (World.block_lt_of_cell? w _ this)
    have H1 := Lib.hid (byteCells_one l)
    have HL := Lib.hid (byteCells_length l)
    have own0 : Hid ((w.alloc (.cells #[] 5)).ownsRow w.heap.size 5 1 (.slice (some ⟨w.heap.size, 0, none⟩) 0 0) 0 []) := World.ownsRow_made _ _ 0 (Nat.le_refl _) (by simp [maxLen]) (by simp)
    have fin : Hid (∀ (v' : Value) (w1 : World), w1.ownsRow w.heap.size 5 1 v' (0 + l.length) ([] ++ byteCells l) → (w.alloc (.cells #[] 5)).grownBy w1 (some w.heap.size) → w1.ownsRow w.heap.size 5 1 v' l.length (byteCells l) ∧ Below w.heap.size w w1) := by
      intro v' w1 h1 h2
      exact ⟨by simpa using h1, ((Below.refl _ _).alloc (Nat.le_refl _) _).grown h2 (by simp) (fun k hk => by cases hk; exact Nat.le_refl _)⟩
    clear h2 hcn
    go_enter Try.func40, Try.ntmps40
    go_wp2_with (at_builtin; refine wpList_append_own _ rfl _ _ 35 rfl w.heap.size 5 i0 _ 1 1 Try.underlying35 hi hz0 hz1 hz2 rfl (by decide) _ 0 [] rfl own0.out ad l.length c (byteCells l) rfl HL.out Hn.out H1.out (by simp only [maxLen]; omega) (by omega) (by simp) ?_; intro v' w1 ho hgr _; obtain ⟨f1, f2⟩ := fin.out v' w1 ho hgr; clear ho hgr)
    go_ret
    exact ⟨_, rfl, f1, f2⟩
end Go.Proofs.Ytabeljpnmmfpgaa
