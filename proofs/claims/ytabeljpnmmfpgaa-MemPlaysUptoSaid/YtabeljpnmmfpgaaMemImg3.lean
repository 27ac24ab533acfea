/-
  Both images tell the same: the program's and the document's, over one list of banks.
-/
import Derived.Test.YtabeljpnmmfpgaaMemImage2
import Derived.Test.YtabeljpnmmfpgaaRefImage
import Derived.Test.YtabeljpnmmfpgaaMemRest
namespace Go.Proofs.Ytabeljpnmmfpgaa
open Go.RowKit Go.MapKept
set_option linter.unusedVariables false
set_option linter.unusedSimpArgs false

attribute [local irreducible] bytesOf
/-- The banks' numbers of a memory, rising. -/
structure NumsOf (M : Mm) (l : List Int) : Prop where
  asc : l.Pairwise (fun x y => x < y)
  has : ∀ n, (M.bank n).isSome = true ↔ n ∈ l
  small : ∀ n ∈ l, 0 ≤ n ∧ n < 16
theorem RefRep.nums {w : World} {b : Nat} {M : Mm} {S : Nat → Prop} (h : RefRep w b M S) : ∃ l, NumsOf M l := by
  obtain ⟨l, bx, bv, br, bs, tv, H⟩ := h
  exact ⟨l, H.asc, H.has, H.small⟩
theorem NumsOf.uniq {M : Mm} {l l' : List Int} (h : NumsOf M l) (h' : NumsOf M l') : l = l' := asc_ext l l' h.asc h'.asc (fun x => by rw [← h.has, ← h'.has])
theorem NumsOf.range {M : Mm} {l : List Int} (h : NumsOf M l) (n : Int) (g : Nat → Int) (hg : M.bank n = some g) : 0 ≤ n ∧ n < 16 := h.small n ((h.has n).1 (by rw [hg]; rfl))
theorem NumsOf.len {M : Mm} {l : List Int} (h : NumsOf M l) : l.length ≤ 16 := asc_len l 0 16 h.asc h.small

def ImgGot (w : World) (M : Mm) (l : List Int) (e : Ending) (w' : World) : Prop :=
  ∃ (b r s : Value) (dv : Nat → Value), e = .returned ((memImg M l).val b r s) ∧ ImgIn w' (memImg M l) b r s dv ∧ Below w.heap.size w w' ∧ Handed w w' l.length dv r s

theorem image_img {b : Nat} {M : Mm} {S : Nat → Prop} {w : World} (h : MemRep w b M S) {l : List Int} (hn : NumsOf M l) :
    Calls Try.prog 22 #[.pointer (some ⟨b, 0, none⟩)] w (ImgGot w M l) := by
  refine (image_rep h hn.range).mono ?_
  rintro e w' ⟨ss, gs, bv, r, s, dv, hp, hm, hg, rfl, hb, hr, hs, hbel, hH⟩
  have el : ss = l := NumsOf.uniq (M := M) ⟨hp, fun n => (hm n).symm, fun n hn' => hn.small n ((hn.has n).1 ((hm n).1 hn'))⟩ hn
  subst el
  have eb : (ss.map fun n => (n, bytesOf (gs n) 16384)) = (memImg M ss).banks := by
    unfold memImg
    generalize 16384 = N
    exact List.map_congr_left (fun n hn' => by rw [hg n hn', Option.getD_some])
  rw [eb] at hb
  exact ⟨bv, r, s, dv, rfl, ⟨hb, hr, hs⟩, hbel, hH⟩

theorem refImage_img {b : Nat} {M : Mm} {S : Nat → Prop} {w : World} (h : RefRep w b M S) (hl : M.tones.length < 1000000000) {l : List Int} (hn : NumsOf M l) :
    Calls Try.prog 35 #[.pointer (some ⟨b, 0, none⟩)] w fun e w' => ∃ bx bv br bs, e = .returned ((memImg M l).val bv (.slice (some ⟨br, 0, none⟩) 16384 16384) (.slice (some ⟨bs, 0, none⟩) 3072 3072)) ∧ RefBody w' M l bx bv br bs ∧
      ImgIn w' (memImg M l) bv (.slice (some ⟨br, 0, none⟩) 16384 16384) (.slice (some ⟨bs, 0, none⟩) 3072 3072) (fun i => .slice (some ⟨bx i, 0, none⟩) 16384 16384) ∧ Below w.heap.size w w' := by
  refine (refImage_rep h hl).mono ?_
  rintro e w' ⟨l', bx, bv, br, bs, rfl, hB, hI, hbel⟩
  have el : l' = l := NumsOf.uniq (M := M) ⟨hB.asc, hB.has, hB.small⟩ hn
  subst el
  exact ⟨bx, bv, br, bs, rfl, hB, hI, hbel⟩

theorem memImg_len (M : Mm) (l : List Int) : (memImg M l).banks.length = l.length := by unfold memImg; generalize 16384 = N; exact List.length_map _
theorem memImg_full (M : Mm) (l : List Int) (i : Nat) (hi : i < l.length) : ((memImg M l).banks.getD i (0, [])).2.length = 16384 := by
  rw [memImg_at M l i hi]
  exact bytesOf_length ((M.bank (l.getD i 0)).getD (fun _ => 0)) 16384
theorem memImg_good {M : Mm} {l : List Int} (hok : M.Ok) (hn : NumsOf M l) : (memImg M l).Ok := by
  refine ⟨bytesOf_isB _ _ hok.ram, bytesOf_isB _ _ hok.scr, fun i hi => ?_, hok.chosen, hok.pad, hok.pitch, hok.volume, hok.time⟩
  rw [memImg_len] at hi
  rw [memImg_at M l i hi]
  have hb : ∀ j, 0 ≤ ((M.bank (l.getD i 0)).getD (fun _ => 0)) j ∧ ((M.bank (l.getD i 0)).getD (fun _ => 0)) j < 256 := fun j => by
    cases hg : M.bank (l.getD i 0) with
    | none => simp
    | some g => exact hok.bank _ g hg j
  generalize (M.bank (l.getD i 0)).getD (fun _ => 0) = f at hb ⊢
  generalize 16384 = n
  exact bytesOf_isB f n hb
theorem memImg_small {M : Mm} {l : List Int} (hn : NumsOf M l) : Small (memImg M l).banks := by
  have := hn.len
  refine ⟨by rw [memImg_len]; omega, fun i => ?_⟩
  by_cases hi : i < l.length
  · rw [memImg_full M l i hi]; omega
  · rw [List.getD_eq_getElem?_getD, List.getElem?_eq_none (by rw [memImg_len]; omega)]; simp
end Go.Proofs.Ytabeljpnmmfpgaa
