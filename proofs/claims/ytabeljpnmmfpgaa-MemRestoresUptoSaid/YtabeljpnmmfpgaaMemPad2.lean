/-
  The statement's paddings, continued: good images, a round of the loop; the image of a restored memory.
-/
import Derived.Test.YtabeljpnmmfpgaaMemPad
import Derived.Test.YtabeljpnmmfpgaaMemImage2
namespace Go.Proofs.Ytabeljpnmmfpgaa
open Go.RowKit Go.MapKept
set_option linter.unusedVariables false
set_option linter.unusedSimpArgs false

structure IGood (I : Img) : Prop where
  ok : I.Ok
  small : Small I.banks
  ram : I.ram.length ≤ 2000000
  scr : I.scr.length ≤ 2000000

theorem IGood.setRam {I : Img} (h : IGood I) (n : Nat) (hn : n ≤ 2000000) : IGood { I with ram := padded I.ram n } :=
  ⟨⟨padded_isB h.ok.ram n, h.ok.scr, h.ok.banks, h.ok.chosen, h.ok.pad, h.ok.pitch, h.ok.volume, h.ok.time⟩, h.small, by show (padded I.ram n).length ≤ _; rw [padded_length]; exact hn, h.scr⟩
theorem IGood.setScr {I : Img} (h : IGood I) (n : Nat) (hn : n ≤ 2000000) : IGood { I with scr := padded I.scr n } :=
  ⟨⟨h.ok.ram, padded_isB h.ok.scr n, h.ok.banks, h.ok.chosen, h.ok.pad, h.ok.pitch, h.ok.volume, h.ok.time⟩, h.small, h.ram, by show (padded I.scr n).length ≤ _; rw [padded_length]; exact hn⟩
theorem IGood.setBanks {I : Img} (h : IGood I) (n : Nat) (hn : n ≤ 2000000) : IGood { I with banks := padL n I.banks } := by
  refine ⟨⟨h.ok.ram, h.ok.scr, fun i hi => ?_, h.ok.chosen, h.ok.pad, h.ok.pitch, h.ok.volume, h.ok.time⟩, ⟨?_, fun i => ?_⟩, h.ram, h.scr⟩
  · dsimp only at hi ⊢
    rw [padL_length] at hi
    rw [padL_at n _ i hi]
    exact padded_isB (h.ok.banks i hi) n
  · show (padL n I.banks).length ≤ _
    rw [padL_length]; exact h.small.1
  · show ((padL n I.banks).getD i (0, [])).2.length ≤ _
    by_cases hi : i < I.banks.length
    · rw [padL_at n _ i hi]; show (padded _ n).length ≤ _; rw [padded_length]; exact hn
    · rw [List.getD_eq_getElem?_getD, List.getElem?_eq_none (by rw [padL_length]; omega)]; simp

theorem makeBytes (n : Nat) (hn : n ≤ 16384) (w : World) : (Instr.makeSlice 35 (.int .i64 (n : Int)) (.int .i64 (n : Int))).run Try.prog w = .ok (.slice (some ⟨w.heap.size, 0, none⟩) n n) (w.alloc (.cells (madeCells #[.int .u8 0] n) 5)) :=
  run_make_row' (P := Try.prog) 35 5 (.int .u8 0) 1 Try.underlying35 infoU8 rfl .i64 .i64 n (by omega) (by omega) w

theorem byteTake_one (l : List Int) (n : Nat) : ∀ u ∈ (byteCells l).take n, u.oneCell' = true := fun u hu => byteCells_one l u (List.mem_of_mem_take hu)
theorem byteTake_length (l : List Int) (n : Nat) : ((byteCells l).take n).length = Nat.min l.length n := by
  rw [List.length_take, byteCells_length, Nat.mul_one]; exact Nat.min_comm _ _
/-- What a copy out of bytes asks of its source. -/
theorem byteTake_src {W : World} {a : Option Addr} {c : Nat} {l : List Int} (h : BytesIn W (.slice a l.length c) l) (n : Nat) (dp : Option Addr) (g : Nat) (hd : dp = some ⟨g, 0, none⟩) :
    0 < ((byteCells l).take n).length → dp = some ⟨g, 0, none⟩ ∧ ∃ ad, a = some ad ∧ ∀ j v, ((byteCells l).take n)[j]? = some v → W.cell? (ad.add j) = some v := by
  intro h0
  rw [byteTake_length] at h0
  obtain ⟨a', c', e, _, h2⟩ := h
  cases e
  have hl : 0 < l.length := by have : Nat.min l.length n ≤ l.length := Nat.min_le_left _ _; omega
  obtain ⟨b, o, rfl, h4⟩ := h2 hl
  refine ⟨hd, _, rfl, fun j v hj => ?_⟩
  rw [List.getElem?_take] at hj
  split at hj
  · obtain ⟨h1, rfl⟩ := byteCells_at hj
    rw [addr_add]; exact h4 j h1
  · cases hj

theorem PIn.slices {w W : World} {I : Img} {b r s : Value} {dv : Nat → Value} (h : PIn w W I b r s dv) : (∃ a c, b = .slice a I.banks.length c) ∧ (∃ a c, r = .slice a I.ram.length c) ∧ (∃ a c, s = .slice a I.scr.length c) := by
  obtain ⟨h1, h2, h3⟩ := h.now
  obtain ⟨a1, c1, e1, _⟩ := h1.row
  obtain ⟨a2, c2, e2, _⟩ := h2
  obtain ⟨a3, c3, e3, _⟩ := h3
  exact ⟨⟨a1, c1, e1⟩, ⟨a2, c2, e2⟩, ⟨a3, c3, e3⟩⟩

theorem PdRel.round {w wr w3 : World} {n0 : Nat} {l : List (Int × List Int)} {k : Nat} {v dsl : Value} {g c : Nat → Nat} {nm : Int} {ds : List Int} (h : PdRel w wr n0 l k v g c) (hkl : k < l.length) (hp : l.getD k (0, []) = (nm, ds))
    (hb : Below (wr.heap.size + 1) (wr.alloc (.cells #[.int .i64 nm, dsl] 37)) w3) (hh : w3.heap[wr.heap.size + 1]? = some (.cells (splice (madeCells #[.int .u8 0] n0).toList 0 ((byteCells ds).take n0)).toArray 5 (0, 0))) :
    w3.cell? ⟨wr.heap.size, 0, none⟩ = some (.int .i64 nm) ∧ w3.cell? ⟨wr.heap.size, 1, none⟩ = some dsl ∧
    (w3.alloc (.cells #[.int .i64 nm, .slice (some ⟨wr.heap.size + 1, 0, none⟩) n0 n0] 37)).ownsRow w.heap.size 37 2 v k (bankCells (padL n0 l) g c k) ∧ w.heap.size ≤ w3.heap.size ∧
    (∀ j u, ([.int .i64 nm, .slice (some ⟨wr.heap.size + 1, 0, none⟩) n0 n0] : List Value)[j]? = some u → (w3.alloc (.cells #[.int .i64 nm, .slice (some ⟨wr.heap.size + 1, 0, none⟩) n0 n0] 37)).cell? ((⟨w3.heap.size, 0, none⟩ : Addr).add j) = some u) ∧
    ∀ v' w4, (w3.alloc (.cells #[.int .i64 nm, .slice (some ⟨wr.heap.size + 1, 0, none⟩) n0 n0] 37)).grownBy w4 v.ownBlock → w4.ownsRow w.heap.size 37 2 v' (k + 1) (bankCells (padL n0 l) g c k ++ [.int .i64 nm, .slice (some ⟨wr.heap.size + 1, 0, none⟩) n0 n0]) →
      ∃ g' c', PdRel w w4 n0 l (k + 1) v' g' c' := by
  have e0 : (wr.alloc (.cells #[.int .i64 nm, dsl] 37)).heap.size = wr.heap.size + 1 := by simp
  have hw3 : Below wr.heap.size wr w3 := ((Below.refl _ _).alloc (Nat.le_refl _) _).trans (hb.mono (by omega))
  have hw4 : Below wr.heap.size wr (w3.alloc (.cells #[.int .i64 nm, .slice (some ⟨wr.heap.size + 1, 0, none⟩) n0 n0] 37)) := hw3.alloc hw3.size _
  have bb : w3.heap[wr.heap.size]? = some (.cells #[.int .i64 nm, dsl] 37 (0, 0)) := (hb.block _ (by omega)).trans (heap_alloc_at wr _)
  refine ⟨by rw [cell_of bb]; rfl, by rw [cell_of bb]; rfl, ownsRow_heap h.row (fun b hb' => hw4.block _ (ownBlock_lt h.row hb')), Nat.le_trans h.below.size hw3.size, fun j u hj => ?_, fun v' w4 hg ho => ?_⟩
  · rw [addr_add, Nat.zero_add, cell_of (heap_alloc_at w3 _)]
    simpa using hj
  · have hn1 : (l.getD k (0, [])).1 = nm := by rw [hp]
    have hn2 : (l.getD k (0, [])).2 = ds := by rw [hp]
    exact ⟨_, _, h.step hw4 hkl (g' := wr.heap.size + 1) (c' := n0) (by rw [hn2]; exact (pad_bytes hh).below ((Below.refl _ _).alloc (Nat.le_refl _) _)) (by omega) ⟨_, _, heap_alloc_old hh⟩ hg (by rw [hn1]; exact ho)⟩

/-- The image of a memory that was restored is the one that it was made of. -/
theorem imageBack {w : World} {q : Nat} {I : Img} {S : Nat → Prop} (h : MemRep w q (imgMem I) S) (hI : ImgOk I) :
    Calls Try.prog 22 #[.pointer (some ⟨q, 0, none⟩)] w fun e w' => ∃ b r s dv, e = .returned (I.val b r s) ∧ ImgIn w' I b r s dv ∧ Below w.heap.size w w' := by
  refine (image_rep h (fun n g hg => ?_)).mono ?_
  · have hn : (bankOf I.banks I.banks.length n).isSome = true := by
      have h' : bankOf I.banks I.banks.length n = some g := hg
      rw [h']; rfl
    obtain ⟨i, hi, rfl⟩ := bankOf_mem _ _ hn
    have h0 := lastAt_ge (l := I.banks) (k := i) (fun j hj => hI.banks j (by omega))
    obtain ⟨h1, h2, _⟩ := hI.banks i hi
    omega
  · rintro e w' ⟨ss, gs, b, r, s, dv, hp, hm, hg, rfl, h1, h2, h3, hb⟩
    have e1 : (ss.map fun n => (n, bytesOf (gs n) 16384)) = I.banks := imgMem_banks hI hp hm hg
    have e2 : bytesOf (imgMem I).ram 16384 = I.ram := bytesOf_getD _ _ hI.ram
    have e3 : bytesOf (imgMem I).scr 3072 = I.scr := bytesOf_getD _ _ hI.scr
    rw [e1] at h1; rw [e2] at h2; rw [e3] at h3
    exact ⟨b, r, s, dv, rfl, ⟨h1, h2, h3⟩, hb⟩
end Go.Proofs.Ytabeljpnmmfpgaa
