/-
  FlowBehind: its calls' answers; a word whose calls are struck.
-/
import Derived.Test.YtabeljpnmmfpgaaDoorFlNamA
import Derived.Test.YtabeljpnmmfpgaaDoorFlHas
import Derived.Test.YtabeljpnmmfpgaaDoorFlOrdP
namespace Go.Proofs.YtabeljpnmmfpgaaDoor
open Go.RowKit Go.MapKept Go.Maps Go.Sort
set_option linter.unusedVariables false
set_option linter.unusedSimpArgs false

def WT.bare (t : WT) : WT := { t with ca := none, cl := 0, cc := 0 }
theorem flat3_bare : ∀ (l : List WT) (i : Nat) (hi : i < l.length), (l.set i (l[i]).bare).flatMap WT.cells = (l.flatMap WT.cells).set (i * 3 + 2) (.slice none 0 0)
  | x :: l, 0, _ => by
    simp only [List.set_cons_zero, List.flatMap_cons, List.getElem_cons_zero]
    rfl
  | x :: l, i + 1, hi => by
    have h3 : x.cells.length = 3 := rfl
    simp only [List.set_cons_succ, List.flatMap_cons, List.getElem_cons_succ]
    rw [flat3_bare l i (by simpa using hi), List.set_append_right _ _ (by rw [h3]; omega), h3, show (i + 1) * 3 + 2 - 3 = i * 3 + 2 by omega]
theorem RowW.strike {w : World} {base g n c : Nat} {l : List WT} (h : RowW w base (.slice (some ⟨g, 0, none⟩) n c) l) (i : Nat) (hi : i < l.length) :
    RowW (w.setCell ⟨g, i * 3 + 2, none⟩ (.slice none 0 0)) base (.slice (some ⟨g, 0, none⟩) n c) (l.set i (l[i]).bare) := by
  obtain ⟨h1, h2⟩ := h
  unfold RowW
  rw [List.length_set]
  refine ⟨?_, .inr ?_⟩
  · rw [flat3_len, List.length_set]
  · rcases h2 with ⟨e, _⟩ | ⟨g', cap, cur, e, hg, hh, k1, k2, k3, k4⟩
    · cases e
    · cases e
      refine ⟨g, c, cur.setIfInBounds (i * 3 + 2) (.slice none 0 0), rfl, hg, heap_set_cell hh _ _, k1, k2, by simpa using k3, ?_⟩
      rw [flat3_bare l i hi, ← k4, Array.toList_setIfInBounds, List.take_set]
/-! ### the plain law -/
def tw (l : List Int) (i : Nat) : Bool := (List.range i).any fun p => (List.range p).any fun q => decide (l.getD p 0 = l.getD q 0)
def twi (l : List Int) (i j : Nat) : Bool := (List.range j).any fun q => decide (l.getD i 0 = l.getD q 0)
theorem tw_succ (l : List Int) (i : Nat) : tw l (i + 1) = (tw l i || twi l i i) := by
  unfold tw twi
  rw [List.range_succ, List.any_append]
  simp
theorem twi_succ (l : List Int) (i j : Nat) : twi l i (j + 1) = (twi l i j || decide (l.getD i 0 = l.getD j 0)) := by
  unfold twi
  rw [List.range_succ, List.any_append]
  simp
theorem tw_false {l : List Int} (h : tw l l.length = false) : l.Nodup := by
  refine List.pairwise_iff_getElem.2 fun i j hi hj hij e => ?_
  have : tw l l.length = true := by
    unfold tw
    refine List.any_eq_true.2 ⟨j, List.mem_range.2 hj, List.any_eq_true.2 ⟨i, List.mem_range.2 hij, ?_⟩⟩
    rw [List.getD_eq_getElem?_getD, List.getD_eq_getElem?_getD, List.getElem?_eq_getElem hi, List.getElem?_eq_getElem hj]
    simpa using e.symm
  rw [h] at this
  cases this
theorem tw_true {l : List Int} (h : tw l l.length = true) : ¬ l.Nodup := by
  intro hn
  unfold tw at h
  obtain ⟨p, hp, h1⟩ := List.any_eq_true.1 h
  obtain ⟨q, hq, h2⟩ := List.any_eq_true.1 h1
  have hp' := List.mem_range.1 hp
  have hq' := List.mem_range.1 hq
  have e := (List.getD_inj (fallback := (0 : Int)) hp' (Nat.lt_trans hq' hp') hn).1 (of_decide_eq_true h2)
  omega
/-- An order that is told: as the law asks. -/
structure BehOk (xs : List (Int × List Int)) (out : List Int) : Prop where
  len : out.length = xs.length
  nd : out.Nodup
  at_ : ∀ (i : Nat) (hi : i < xs.length), ∃ k0, ∃ h : k0 < out.length, out[k0] = (xs[i]).1 ∧ ∀ c ∈ (xs[i]).2, c ∈ out.take k0
theorem behOk {k : Nat} {xs : List (Int × List Int)} {out : List Int} (h : ord k xs [] = some (.ok out)) : BehOk xs out := by
  refine ⟨?_, ord_nodup _ _ _ _ List.nodup_nil h, fun i hi => ?_⟩
  · have := (ord_perm _ _ _ _ h).length_eq
    simpa using this
  · obtain ⟨j, h1, h2⟩ := ord_behind _ _ _ _ h _ (List.getElem_mem hi)
    obtain ⟨h3, h4⟩ := List.getElem?_eq_some_iff.1 h1
    exact ⟨j, h3, h4, h2⟩
theorem BehOk.dup {xs : List (Int × List Int)} {out : List Int} (h : BehOk xs out) (hp : out.Perm (xs.map (·.1))) : (xs.map (·.1)).Nodup := hp.nodup_iff.1 h.nd
/-- What is told once the calls are struck. -/
theorem bare_ord (k : Nat) (us : List Int) (hk : us.length < k) : (tw us us.length = true → ∃ a, ord k (us.map fun a => (a, [])) [] = some (.error a)) ∧
    (tw us us.length = false → ∃ r, ord k (us.map fun a => (a, [])) [] = some (.ok r) ∧ r.Pairwise (· < ·) ∧ r.length = us.length) := by
  have em : (us.map fun a => ((a, []) : Int × List Int)).map (·.1) = us := by rw [List.map_map]; exact List.map_id _
  constructor
  · intro h
    obtain ⟨r, hr⟩ := ord_some k (us.map fun a => (a, [])) [] (by simpa using hk)
    cases r with
    | error a => exact ⟨a, hr⟩
    | ok r =>
      refine absurd ?_ (tw_true h)
      have := (behOk hr).dup (by simpa using ord_perm _ _ _ _ hr)
      rwa [em] at this
  · intro h
    obtain ⟨r, hr, hp⟩ := ord_rise k (us.map fun a => (a, [])) [] (by simpa using hk) (by intro x hx; obtain ⟨a, _, rfl⟩ := List.mem_map.1 hx; rfl) (by rw [List.nil_append, em]; exact tw_false h) (by simp) List.Pairwise.nil
    exact ⟨r, hr, hp, by have := (behOk hr).len; simpa using this⟩
/-- The place in o that is told for an address, when j of o are looked at. -/
def kAt (k0 j : Nat) : Int := if j ≤ k0 then -1 else (k0 : Int)
end Go.Proofs.YtabeljpnmmfpgaaDoor
