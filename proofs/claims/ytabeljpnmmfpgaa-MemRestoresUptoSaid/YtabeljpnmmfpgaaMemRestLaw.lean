/-
  What Restore takes and what it makes of it: plain law.
-/
import Derived.Test.YtabeljpnmmfpgaaMemImage1b
import Derived.Test.YtabeljpnmmfpgaaMemFull
namespace Go.Proofs.Ytabeljpnmmfpgaa
open Go.RowKit Go.MapKept
set_option linter.unusedVariables false
set_option linter.unusedSimpArgs false

/-- An image that Restore takes. -/
structure ImgOk (I : Img) : Prop where
  banks : banksOk I.banks
  full : ∀ i, i < I.banks.length → (I.banks.getD i (0, [])).2.length = 16384
  ram : I.ram.length = 16384
  scr : I.scr.length = 3072
  chosen : I.chosen < 16

/-- The memory that it makes. -/
def imgMem (I : Img) : Mm := { newMem I.banks I.banks.length with ram := fun j => I.ram.getD j 0, scr := fun j => I.scr.getD j 0, chosen := I.chosen, pad := I.pad, pitch := I.pitch, volume := I.volume, time := I.time }

theorem asc_ext : ∀ (a b : List Int), a.Pairwise (fun x y => x < y) → b.Pairwise (fun x y => x < y) → (∀ x, x ∈ a ↔ x ∈ b) → a = b
  | [], [], _, _, _ => rfl
  | [], y :: b, _, _, h => absurd ((h y).2 (by simp)) (by simp)
  | x :: a, [], _, _, h => absurd ((h x).1 (by simp)) (by simp)
  | x :: a, y :: b, ha, hb, h => by
    obtain ⟨ha1, ha2⟩ := List.pairwise_cons.1 ha
    obtain ⟨hb1, hb2⟩ := List.pairwise_cons.1 hb
    have e : x = y := by
      have h1 := (h x).1 (by simp)
      have h2 := (h y).2 (by simp)
      rcases List.mem_cons.1 h1 with h1 | h1
      · exact h1
      · rcases List.mem_cons.1 h2 with h2 | h2
        · exact h2.symm
        · have := hb1 x h1; have := ha1 y h2; omega
    subst e
    have e2 : a = b := asc_ext a b ha2 hb2 (fun z => by
      constructor
      · intro hz
        have h3 := (h z).1 (List.mem_cons_of_mem _ hz)
        rcases List.mem_cons.1 h3 with rfl | h3
        · have := ha1 _ hz; omega
        · exact h3
      · intro hz
        have h3 := (h z).2 (List.mem_cons_of_mem _ hz)
        rcases List.mem_cons.1 h3 with rfl | h3
        · have := hb1 _ hz; omega
        · exact h3)
    rw [e2]

theorem banksOk_lt {l : List (Int × List Int)} (h : banksOk l) : ∀ j i, i < j → j < l.length → (l.getD i (0, [])).1 < (l.getD j (0, [])).1
  | 0, i, hi, _ => by omega
  | j + 1, i, hi, hj => by
    have h1 := (h (j + 1) hj).1
    rw [lastAt_succ] at h1
    by_cases e : i = j
    · subst e; exact h1
    · have := banksOk_lt h j i (by omega) (by omega); omega
theorem bankOf_at {l : List (Int × List Int)} (h : banksOk l) : ∀ k i, i < k → k ≤ l.length → bankOf l k (l.getD i (0, [])).1 = some (fun j => (l.getD i (0, [])).2.getD j 0)
  | 0, i, hi, _ => by omega
  | k + 1, i, hi, hk => by
    unfold bankOf
    by_cases e : i = k
    · subst e; rw [if_pos rfl]
    · have := banksOk_lt h k i (by omega) (by omega)
      rw [if_neg (by omega)]
      exact bankOf_at h k i (by omega) (by omega)
theorem bankOf_mem {l : List (Int × List Int)} : ∀ k n, (bankOf l k n).isSome = true → ∃ i, i < k ∧ (l.getD i (0, [])).1 = n
  | 0, n, h => by cases h
  | k + 1, n, h => by
    unfold bankOf at h
    split at h
    · rename_i e
      exact ⟨k, by omega, e.symm⟩
    · obtain ⟨i, h1, h2⟩ := bankOf_mem k n h
      exact ⟨i, by omega, h2⟩

theorem bytesOf_getD (l : List Int) (n : Nat) (h : l.length = n) : bytesOf (fun j => l.getD j 0) n = l := by
  subst h
  exact padded_self l

theorem imgMem_banks {I : Img} (h : ImgOk I) {ss : List Int} {gs : Int → Nat → Int} (hp : ss.Pairwise (fun x y => x < y)) (hm : ∀ x, x ∈ ss ↔ ((imgMem I).bank x).isSome = true) (hg : ∀ x, x ∈ ss → (imgMem I).bank x = some (gs x)) : bankList ss gs = I.banks := by
  have hget : ∀ i (hi : i < I.banks.length), I.banks.getD i (0, []) = I.banks[i] := fun i hi => by
    rw [List.getD_eq_getElem?_getD, List.getElem?_eq_getElem hi]; rfl
  have e : ss = I.banks.map Prod.fst := by
    refine asc_ext _ _ hp ?_ (fun x => ?_)
    · rw [List.pairwise_map, List.pairwise_iff_getElem]
      intro i j hi hj hij
      have := banksOk_lt h.banks j i hij hj
      rw [hget i hi, hget j hj] at this
      exact this
    · rw [hm x]
      constructor
      · intro hs
        obtain ⟨i, h1, h2⟩ := bankOf_mem _ _ hs
        refine List.mem_map.2 ⟨I.banks.getD i (0, []), ?_, h2⟩
        rw [hget i h1]; exact List.getElem_mem h1
      · intro hx
        obtain ⟨p, hp', rfl⟩ := List.mem_map.1 hx
        obtain ⟨i, hi, rfl⟩ := List.getElem_of_mem hp'
        have := bankOf_at h.banks _ i hi (Nat.le_refl _)
        rw [hget i hi] at this
        show (bankOf I.banks I.banks.length _).isSome = true
        rw [this]; rfl
  subst e
  unfold bankList
  refine List.ext_getElem (by simp) (fun i h1 h2 => ?_)
  rw [List.getElem_map, List.getElem_map]
  have h3 := hg (I.banks[i]).1 (List.mem_map.2 ⟨_, List.getElem_mem h2, rfl⟩)
  have h4 := bankOf_at h.banks _ i h2 (Nat.le_refl _)
  rw [hget i h2] at h4
  have h5 : some (gs (I.banks[i]).1) = some (fun j => (I.banks[i]).2.getD j 0) := h3.symm.trans h4
  rw [Option.some.inj h5]
  have hf := h.full i h2
  rw [hget i h2] at hf
  rw [bytesOf_getD _ _ hf]

end Go.Proofs.Ytabeljpnmmfpgaa
