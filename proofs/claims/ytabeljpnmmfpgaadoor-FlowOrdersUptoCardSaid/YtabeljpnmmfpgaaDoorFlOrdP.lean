/-
  The order's plain law: what Order answers, with no program in sight.
-/
import Derived.Test.YtabeljpnmmfpgaaDoorFlOrder
namespace Go.Proofs.YtabeljpnmmfpgaaDoor
open Go.RowKit Go.MapKept Go.Maps Go.Sort
set_option linter.unusedVariables false
set_option linter.unusedSimpArgs false

theorem bestOf_rdy (T : List Int) (l : List (Int × List Int)) : ∀ (n k : Nat), bestOf T l n = some k → rdy T (l.getD k (0, [])) = true
  | 0, k, h => by cases h
  | n + 1, k, h => by
    rw [bestOf_succ] at h
    unfold bestStep at h
    split at h
    · rename_i hc
      cases h
      simp only [Bool.and_eq_true] at hc
      exact hc.1
    · exact bestOf_rdy T l n k h
theorem bestOf_none (T : List Int) (l : List (Int × List Int)) : ∀ (n : Nat), bestOf T l n = none → ∀ i, i < n → rdy T (l.getD i (0, [])) = false
  | 0, _, i, hi => by omega
  | n + 1, h, i, hi => by
    rw [bestOf_succ] at h
    unfold bestStep at h
    split at h
    · cases h
    · rename_i hc
      by_cases e : i = n
      · subst e
        rw [h] at hc
        simpa [better] using hc
      · exact bestOf_none T l n h i (by omega)
/-- What is chosen is the least of the ready. -/
theorem bestOf_least (T : List Int) (l : List (Int × List Int)) : ∀ (n k : Nat), bestOf T l n = some k → ∀ i, i < n → rdy T (l.getD i (0, [])) = true → (l.getD k (0, [])).1 ≤ (l.getD i (0, [])).1
  | 0, k, h, i, hi, _ => by omega
  | n + 1, k, h, i, hi, hr => by
    rw [bestOf_succ] at h
    unfold bestStep at h
    split at h
    · rename_i hc
      cases h
      simp only [Bool.and_eq_true] at hc
      by_cases e : i = n
      · subst e; exact Int.le_refl _
      · cases hb : bestOf T l n with
        | none => have := bestOf_none T l n hb i (by omega); rw [hr] at this; cases this
        | some k' =>
          have h1 := bestOf_least T l n k' hb i (by omega) hr
          have h2 := hc.2
          rw [hb] at h2
          simp only [better, decide_eq_true_eq] at h2
          omega
    · rename_i hc
      by_cases e : i = n
      · subst e
        rw [h, hr] at hc
        simp only [better, Bool.true_and, decide_eq_true_eq] at hc
        omega
      · exact bestOf_least T l n k h i (by omega) hr
theorem rdy_iff (T : List Int) (x : Int × List Int) : rdy T x = true ↔ x.1 ∉ T ∧ ∀ y ∈ x.2, y ∈ T := by
  unfold rdy
  simp
theorem ord_some : ∀ (k : Nat) (l : List (Int × List Int)) (out : List Int), l.length < k → ∃ r, ord k l out = some r
  | 0, l, out, h => by omega
  | k + 1, l, out, h => by
    unfold ord
    split
    · exact ⟨_, rfl⟩
    · split
      · exact ⟨_, rfl⟩
      · rename_i b hb
        have := bestOf_lt _ _ _ _ hb
        exact ord_some k _ _ (by rw [List.length_eraseIdx_of_lt this]; omega)
theorem getD_lt {l : List (Int × List Int)} {b : Nat} (h : b < l.length) : l.getD b (0, []) = l[b] := by rw [List.getD_eq_getElem?_getD, List.getElem?_eq_getElem h]; rfl
theorem perm_erase {l : List (Int × List Int)} {b : Nat} (h : b < l.length) : l.Perm (l[b] :: l.eraseIdx b) := by
  rw [List.eraseIdx_eq_take_drop_succ]
  have e : l = l.take b ++ l[b] :: l.drop (b + 1) := by rw [← List.drop_eq_getElem_cons h, List.take_append_drop]
  have e2 : l[b] :: (l.take b ++ l.drop (b + 1)) = l[b] :: (l.take b ++ l.drop (b + 1)) := rfl
  exact (List.Perm.of_eq e).trans List.perm_middle
theorem ord_perm : ∀ (k : Nat) (l : List (Int × List Int)) (out r : List Int), ord k l out = some (.ok r) → r.Perm (out ++ l.map (·.1))
  | 0, _, _, _, h => by cases h
  | k + 1, l, out, r, h => by
    unfold ord at h
    split at h
    · rename_i h0
      obtain rfl := List.eq_nil_of_length_eq_zero h0
      cases h
      simp
    · split at h
      · cases h
      · rename_i b hb
        have hl := bestOf_lt _ _ _ _ hb
        rw [getD_lt hl] at h
        refine (ord_perm k _ _ r h).trans ?_
        rw [List.append_assoc]
        refine List.Perm.append_left _ ?_
        exact ((perm_erase hl).map (·.1)).symm
theorem ord_nodup : ∀ (k : Nat) (l : List (Int × List Int)) (out r : List Int), out.Nodup → ord k l out = some (.ok r) → r.Nodup
  | 0, _, _, _, _, h => by cases h
  | k + 1, l, out, r, hn, h => by
    unfold ord at h
    split at h
    · cases h; exact hn
    · split at h
      · cases h
      · rename_i b hb
        have hl := bestOf_lt _ _ _ _ hb
        have hr := (rdy_iff _ _).1 (bestOf_rdy _ _ _ _ hb)
        refine ord_nodup k _ _ r ?_ h
        refine List.nodup_append.2 ⟨hn, by simp, fun a ha c hc e => ?_⟩
        simp only [List.mem_singleton] at hc
        subst e hc
        exact hr.1 ha
theorem ord_err : ∀ (k : Nat) (l : List (Int × List Int)) (out : List Int) (a : Int), ord k l out = some (.error a) → ∃ x ∈ l, x.1 = a
  | 0, _, _, _, h => by cases h
  | k + 1, l, out, a, h => by
    unfold ord at h
    split at h
    · cases h
    · rename_i h0
      split at h
      · cases h
        have key : ∀ n, n ≤ l.length → ∃ x ∈ l, x.1 = minAt l n := by
          intro n
          induction n with
          | zero =>
            intro _
            have h1 : 0 < l.length := by omega
            exact ⟨l[0], List.getElem_mem _, by unfold minAt; rw [getD_lt h1]; rfl⟩
          | succ n ih =>
            intro hn
            rw [minAt_succ l n (by omega)]
            split
            · exact ⟨_, List.getElem_mem _, rfl⟩
            · exact ih (by omega)
        exact key _ (Nat.le_refl _)
      · rename_i b hb
        obtain ⟨x, hx, e⟩ := ord_err k _ _ a h
        exact ⟨x, List.mem_of_mem_eraseIdx hx, e⟩
theorem ord_prefix : ∀ (k : Nat) (l : List (Int × List Int)) (out r : List Int), ord k l out = some (.ok r) → ∃ s, r = out ++ s
  | 0, _, _, _, h => by cases h
  | k + 1, l, out, r, h => by
    unfold ord at h
    split at h
    · cases h; exact ⟨[], by simp⟩
    · split at h
      · cases h
      · obtain ⟨s, hs⟩ := ord_prefix k _ _ r h
        exact ⟨_, by rw [hs, List.append_assoc]⟩
theorem mem_erase_or {l : List (Int × List Int)} {b : Nat} (hb : b < l.length) {x : Int × List Int} (h : x ∈ l) : x = l[b] ∨ x ∈ l.eraseIdx b := by
  have := (perm_erase hb).mem_iff.1 h
  exact List.mem_cons.1 this
/-- Each word stands behind all that it calls. -/
theorem ord_behind : ∀ (k : Nat) (l : List (Int × List Int)) (out r : List Int), ord k l out = some (.ok r) → ∀ x ∈ l, ∃ j, r[j]? = some x.1 ∧ ∀ c ∈ x.2, c ∈ r.take j
  | 0, _, _, _, h => by cases h
  | k + 1, l, out, r, h => by
    unfold ord at h
    split at h
    · rename_i h0
      obtain rfl := List.eq_nil_of_length_eq_zero h0
      intro x hx; cases hx
    · split at h
      · cases h
      · rename_i b hb
        have hl := bestOf_lt _ _ _ _ hb
        have hr := (rdy_iff _ _).1 (bestOf_rdy _ _ _ _ hb)
        rw [getD_lt hl] at h hr
        intro x hx
        rcases mem_erase_or hl hx with rfl | hx
        · obtain ⟨s, hs⟩ := ord_prefix k _ _ r h
          refine ⟨out.length, ?_, fun c hc => ?_⟩
          · rw [hs, List.append_assoc, List.getElem?_append_right (Nat.le_refl _)]
            simp
          · rw [hs, List.append_assoc, List.take_left]
            exact hr.2 c hc
        · exact ord_behind k _ _ r h x hx
/-- Words that call none, no two of one address: they come by their addresses. -/
theorem ord_rise : ∀ (k : Nat) (l : List (Int × List Int)) (out : List Int), l.length < k → (∀ x ∈ l, x.2 = []) → (out ++ l.map (·.1)).Nodup → (∀ a ∈ out, ∀ x ∈ l, a < x.1) → out.Pairwise (· < ·) →
    ∃ r, ord k l out = some (.ok r) ∧ r.Pairwise (· < ·)
  | 0, l, out, h, _, _, _, _ => by omega
  | k + 1, l, out, h, hc, hn, ho, hp => by
    unfold ord
    by_cases h0 : l.length = 0
    · rw [if_pos h0]; exact ⟨out, rfl, hp⟩
    · rw [if_neg h0]
      have hd := (List.nodup_append.1 hn).2.2
      have hready : ∀ i (hi : i < l.length), rdy out (l.getD i (0, [])) = true := fun i hi => by
        rw [getD_lt hi, rdy_iff]
        refine ⟨fun hm => hd _ hm _ (List.mem_map.2 ⟨_, List.getElem_mem hi, rfl⟩) rfl, ?_⟩
        rw [hc _ (List.getElem_mem hi)]
        simp
      cases hb : bestOf out l l.length with
      | none =>
        have := bestOf_none out l _ hb 0 (by omega)
        rw [hready 0 (by omega)] at this
        cases this
      | some b =>
        have hl := bestOf_lt _ _ _ _ hb
        have least : ∀ x ∈ l, (l[b]).1 ≤ x.1 := fun x hx => by
          obtain ⟨i, hi, rfl⟩ := List.getElem_of_mem hx
          have := bestOf_least out l _ b hb i hi (hready i hi)
          rwa [getD_lt hl, getD_lt hi] at this
        dsimp only
        rw [getD_lt hl]
        have hpm := (perm_erase hl).map (·.1)
        have nd : (l[b] :: l.eraseIdx b |>.map (·.1)).Nodup := hpm.nodup_iff.1 (List.nodup_append.1 hn).2.1
        rw [List.map_cons, List.nodup_cons] at nd
        refine ord_rise k _ _ (by rw [List.length_eraseIdx_of_lt hl]; omega) (fun x hx => hc x (List.mem_of_mem_eraseIdx hx)) ?_ ?_ ?_
        · rw [List.append_assoc]
          exact (List.Perm.append_left out hpm).nodup_iff.1 hn
        · intro a ha x hx
          have hx' := List.mem_of_mem_eraseIdx hx
          rcases List.mem_append.1 ha with ha | ha
          · exact ho a ha x hx'
          · simp only [List.mem_singleton] at ha
            subst ha
            have h1 := least x hx'
            have h2 : (l[b]).1 ≠ x.1 := fun e => nd.1 (by rw [e]; exact List.mem_map.2 ⟨x, hx, rfl⟩)
            omega
        · refine List.pairwise_append.2 ⟨hp, by simp, fun a ha c hc' => ?_⟩
          simp only [List.mem_singleton] at hc'
          subst hc'
          exact ho a ha _ (List.getElem_mem hl)
end Go.Proofs.YtabeljpnmmfpgaaDoor
