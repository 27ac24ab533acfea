/-
  full of the reference's text.
-/
import Derived.Test.YtabeljpnmmfpgaaMemSame
import Derived.Deep.OwnRows
namespace Go.Proofs.Ytabeljpnmmfpgaa
open Go.RowKit Go.MapKept
set_option linter.unusedVariables false
set_option linter.unusedSimpArgs false

structure FullRel (w wr : World) (l : List Int) (n k : Nat) : Prop where
  below : Below w.heap.size w wr
  blk : ∃ cs, wr.heap[w.heap.size]? = some (.cells cs 5 (0, 0)) ∧ cs.size = n ∧ ∀ j, j < n → cs[j]? = some (.int .u8 (if j < k then l.getD j 0 else 0))

theorem FullRel.start (w : World) (l : List Int) (n : Nat) : FullRel w (w.alloc (.cells (madeCells #[.int .u8 0] n) 5)) l n 0 :=
  ⟨(Below.refl _ _).alloc (Nat.le_refl _) _, by
    obtain ⟨cs, h1, h2, h3⟩ := World.rowIs_made w (.int .u8 0) n 5
    exact ⟨cs, h1, h2, fun j hj => by rw [h3 j hj]; simp⟩⟩

theorem FullRel.step {w wr : World} {l : List Int} {n k : Nat} (h : FullRel w wr l n k) (hk : k < n) : FullRel w (wr.setCell ⟨w.heap.size, k, none⟩ (.int .u8 (l.getD k 0))) l n (k + 1) := by
  obtain ⟨hb, cs, h1, h2, h3⟩ := h
  refine ⟨hb.setCell (Nat.le_refl _) _, _, heap_set_cell h1 k _, by simp [h2], fun j hj => ?_⟩
  rw [Array.getElem?_setIfInBounds]
  by_cases e : k = j
  · subst e; simp [h2, hj]
  · rw [if_neg e, h3 j hj]
    by_cases e2 : j < k
    · rw [if_pos e2, if_pos (by omega)]
    · rw [if_neg e2, if_neg (by omega)]

/-- The list with zeros behind it. -/
def padded (l : List Int) (n : Nat) : List Int := (List.range n).map fun j => l.getD j 0
theorem padded_length (l : List Int) (n : Nat) : (padded l n).length = n := by simp [padded]
theorem padded_at (l : List Int) (n j : Nat) (hj : j < n) : (padded l n).getD j 0 = l.getD j 0 := by
  unfold padded
  rw [List.getD_eq_getElem?_getD, List.getElem?_map, List.getElem?_range hj]; rfl
theorem padded_self (l : List Int) : padded l l.length = l := by
  refine List.ext_getElem? fun j => ?_
  by_cases hj : j < l.length
  · have h := padded_at l l.length j hj
    rw [List.getD_eq_getElem?_getD, List.getD_eq_getElem?_getD, List.getElem?_eq_getElem hj, List.getElem?_eq_getElem (by rw [padded_length]; exact hj)] at h
    rw [List.getElem?_eq_getElem hj, List.getElem?_eq_getElem (by rw [padded_length]; exact hj)]
    exact congrArg some h
  · have hp := padded_length l l.length
    rw [List.getElem?_eq_none (by omega), List.getElem?_eq_none (by omega)]

theorem FullRel.done {w wr : World} {l : List Int} {n k : Nat} (h : FullRel w wr l n k) (hk : l.length = k) (hn : k ≤ n) : BytesIn wr (.slice (some ⟨w.heap.size, 0, none⟩) n n) (padded l n) := by
  obtain ⟨hb, cs, h1, h2, h3⟩ := h
  refine ⟨some ⟨w.heap.size, 0, none⟩, n, by rw [padded_length], (fun e => by cases e), fun _ => ⟨_, 0, rfl, fun j hj => ?_⟩⟩
  rw [padded_length] at hj
  rw [padded_at _ _ _ hj, Nat.zero_add, cell_of h1, h3 j hj]
  by_cases e : j < k
  · rw [if_pos e]
  · rw [if_neg e, List.getD_eq_getElem?_getD, List.getElem?_eq_none (by omega)]; rfl

set_option maxRecDepth 100000 in
set_option maxHeartbeats 2000000 in
theorem full_any (w : World) (v : Value) (l : List Int) (n : Nat) (hb : BytesIn w v l) (hl : l.length ≤ n) (hn : n ≤ 16384) :
    Calls Try.prog 44 #[v, .int .i64 n] w fun e w' => e = .returned (.slice (some ⟨w.heap.size, 0, none⟩) n n) ∧ BytesIn w' (.slice (some ⟨w.heap.size, 0, none⟩) n n) (padded l n) ∧ Below w.heap.size w w' := by
  have start := Lib.hid (FullRel.start w l n)
  obtain ⟨a, c, rfl, hcn, h2⟩ := hb
  have H2 := Lib.hid h2
  clear h2 hcn
  go_enter Try.func44, Try.ntmps44
  have hmk := run_make_row' (P := Try.prog) 35 5 (.int .u8 0) 1 Try.underlying35 infoU8 rfl .i64 .i64 n (by omega) (by omega)
  go_wp2_with (fail)
  go_loopw [11] (fun i wr => ∃ k : Nat, k ≤ l.length ∧ i = .int .i64 k ∧ Hid (FullRel w wr l n k)) (fun i _ => l.length - (intOf i).toNat)
  case atStart => exact ⟨0, Nat.zero_le _, rfl, start⟩
  case round =>
    obtain ⟨k, hk, rfl, hr⟩ := hrel
    by_cases hlt : k < l.length
    · obtain ⟨b, o, rfl, hc⟩ := H2.out (by omega)
      have hc' := hc k hlt
      have c0 : wr.cell? ⟨b, o + k, none⟩ = some (.int .u8 (l.getD k 0)) := cell_keep hr.out.below hc' (World.block_lt_of_cell? w _ hc')
      obtain ⟨cs, h1, h2, h3⟩ := hr.out.blk
      have c1 : wr.cell? ⟨w.heap.size, k, none⟩ = some (.int .u8 0) := by rw [cell_of h1, h3 k (by omega), if_neg (by omega)]
      have c2 : wr.frozen? ⟨w.heap.size, k, none⟩ = false := by simp [World.frozen?, h1]
      have next : Hid (FullRel w (wr.setCell ⟨w.heap.size, k, none⟩ (.int .u8 (l.getD k 0))) l n (k + 1)) := hr.out.step (by omega)
      obtain ⟨x, hx⟩ : ∃ x, x = l.getD k 0 := ⟨_, rfl⟩
      rw [← hx] at c0 next
      have hkn : (k : Int) < (n : Int) := by omega
      clear hx hc hc' h1 h2 h3 hr
      go_wp2_with (fail)
      go_roundw
      case rel => exact ⟨k + 1, hlt, by go_num, next⟩
      case measure => simp [intOf]; omega
    · have hke : l.length = k := by omega
      have fin : Hid (BytesIn wr (.slice (some ⟨w.heap.size, 0, none⟩) n n) (padded l n) ∧ Below w.heap.size w wr) := ⟨hr.out.done hke (by omega), hr.out.below⟩
      clear hke
      go_wp2_with (fail)
      go_ret
      exact ⟨rfl, fin.out⟩
end Go.Proofs.Ytabeljpnmmfpgaa
