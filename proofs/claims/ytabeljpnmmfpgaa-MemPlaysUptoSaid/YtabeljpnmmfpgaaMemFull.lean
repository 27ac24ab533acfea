/-
  full of the reference's text.
  slices.Clone of bytes.
-/
import Derived.Test.YtabeljpnmmfpgaaMemOwn
import Derived.Deep.OwnRows
namespace Go.Proofs.Ytabeljpnmmfpgaa
open Go.RowKit Go.MapKept
set_option linter.unusedVariables false
set_option linter.unusedSimpArgs false

structure FullRel (w wr : World) (l : List Int) (n k : Nat) : Prop where
  below : Below w.heap.size w wr
  blk : ∃ cs, wr.heap[w.heap.size]? = some (.cells cs 5 (0, 0)) ∧ cs.size = n ∧ ∀ j, j < n → cs[j]? = some (.int .u8 (if j < k then l.getD j 0 else 0))

theorem FullRel.start (w : World) (l : List Int) (n : Nat) : FullRel w (w.alloc (.cells (madeCells #[.int .u8 0] n) 5)) l n 0 :=
  ⟨(Below.refl _ _).alloc (Nat.le_refl _) _, by
    obtain ⟨cs, h1, h2, h3⟩ := World.rowIs_made w (.int .u8 0) n 5
    exact ⟨cs, h1, h2, fun j hj => by rw [h3 j hj]; simp⟩⟩

theorem FullRel.step {w wr : World} {l : List Int} {n k : Nat} (h : FullRel w wr l n k) (hk : k < n) : FullRel w (wr.setCell ⟨w.heap.size, k, none⟩ (.int .u8 (l.getD k 0))) l n (k + 1) := by
  obtain ⟨hb, cs, h1, h2, h3⟩ := h
  refine ⟨hb.setCell (Nat.le_refl _) _, _, heap_set_cell h1 k _, by simp [h2], fun j hj => ?_⟩
  rw [Array.getElem?_setIfInBounds]
  by_cases e : k = j
  · subst e; simp [h2, hj]
  · rw [if_neg e, h3 j hj]
    by_cases e2 : j < k
    · rw [if_pos e2, if_pos (by omega)]
    · rw [if_neg e2, if_neg (by omega)]

/-- The list with zeros behind it. -/
def padded (l : List Int) (n : Nat) : List Int := (List.range n).map fun j => l.getD j 0
theorem padded_length (l : List Int) (n : Nat) : (padded l n).length = n := by simp [padded]
theorem padded_at (l : List Int) (n j : Nat) (hj : j < n) : (padded l n).getD j 0 = l.getD j 0 := by
  unfold padded
  rw [List.getD_eq_getElem?_getD, List.getElem?_map, List.getElem?_range hj]; rfl
theorem padded_self (l : List Int) : padded l l.length = l := by
  refine List.ext_getElem? fun j => ?_
  by_cases hj : j < l.length
  · have h := padded_at l l.length j hj
    rw [List.getD_eq_getElem?_getD, List.getD_eq_getElem?_getD, List.getElem?_eq_getElem hj, List.getElem?_eq_getElem (by rw [padded_length]; exact hj)] at h
    rw [List.getElem?_eq_getElem hj, List.getElem?_eq_getElem (by rw [padded_length]; exact hj)]
    exact congrArg some h
  · have hp := padded_length l l.length
    rw [List.getElem?_eq_none (by omega), List.getElem?_eq_none (by omega)]

theorem FullRel.done {w wr : World} {l : List Int} {n k : Nat} (h : FullRel w wr l n k) (hk : l.length = k) (hn : k ≤ n) : BytesIn wr (.slice (some ⟨w.heap.size, 0, none⟩) n n) (padded l n) := by
  obtain ⟨hb, cs, h1, h2, h3⟩ := h
  refine ⟨some ⟨w.heap.size, 0, none⟩, n, by rw [padded_length], (fun e => by cases e), fun _ => ⟨_, 0, rfl, fun j hj => ?_⟩⟩
  rw [padded_length] at hj
  rw [padded_at _ _ _ hj, Nat.zero_add, cell_of h1, h3 j hj]
  by_cases e : j < k
  · rw [if_pos e]
  · rw [if_neg e, List.getD_eq_getElem?_getD, List.getElem?_eq_none (by omega)]; rfl

set_option maxRecDepth 100000 in
set_option maxHeartbeats 2000000 in
theorem full_any (w : World) (v : Value) (l : List Int) (n : Nat) (hb : BytesIn w v l) (hl : l.length ≤ n) (hn : n ≤ 16384) :
    Calls Try.prog 44 #[v, .int .i64 n] w fun e w' => e = .returned (.slice (some ⟨w.heap.size, 0, none⟩) n n) ∧ BytesIn w' (.slice (some ⟨w.heap.size, 0, none⟩) n n) (padded l n) ∧ Below w.heap.size w w' := by
  have start := Lib.hid (FullRel.start w l n)
  obtain ⟨a, c, rfl, hcn, h2⟩ := hb
  have H2 := Lib.hid h2
  clear h2 hcn
  go_enter Try.func44, Try.ntmps44
  have hmk := run_make_row' (P := Try.prog) 35 5 (.int .u8 0) 1 Try.underlying35 infoU8 rfl .i64 .i64 n (by omega) (by omega)
  go_wp2_with (fail)
  go_loopw [11] (fun i wr => ∃ k : Nat, k ≤ l.length ∧ i = .int .i64 k ∧ Hid (FullRel w wr l n k)) (fun i _ => l.length - (intOf i).toNat)
  case atStart => exact ⟨0, Nat.zero_le _, rfl, start⟩
  case round =>
    obtain ⟨k, hk, rfl, hr⟩ := hrel
    by_cases hlt : k < l.length
    · obtain ⟨b, o, rfl, hc⟩ := H2.out (by omega)
      have hc' := hc k hlt
      have c0 : wr.cell? ⟨b, o + k, none⟩ = some (.int .u8 (l.getD k 0)) := cell_keep hr.out.below hc' (World.block_lt_of_cell? w _ hc')
      obtain ⟨cs, h1, h2, h3⟩ := hr.out.blk
      have c1 : wr.cell? ⟨w.heap.size, k, none⟩ = some (.int .u8 0) := by rw [cell_of h1, h3 k (by omega), if_neg (by omega)]
      have c2 : wr.frozen? ⟨w.heap.size, k, none⟩ = false := by simp [World.frozen?, h1]
      have next : Hid (FullRel w (wr.setCell ⟨w.heap.size, k, none⟩ (.int .u8 (l.getD k 0))) l n (k + 1)) := hr.out.step (by omega)
      obtain ⟨x, hx⟩ : ∃ x, x = l.getD k 0 := ⟨_, rfl⟩
      rw [← hx] at c0 next
      have hkn : (k : Int) < (n : Int) := by omega
      clear hx hc hc' h1 h2 h3 hr
      go_wp2_with (fail)
      go_roundw
      case rel => exact ⟨k + 1, hlt, by go_num, next⟩
      case measure => simp [intOf]; omega
    · have hke : l.length = k := by omega
      have fin : Hid (BytesIn wr (.slice (some ⟨w.heap.size, 0, none⟩) n n) (padded l n) ∧ Below w.heap.size w wr) := ⟨hr.out.done hke (by omega), hr.out.below⟩
      clear hke
      go_wp2_with (fail)
      go_ret
      exact ⟨rfl, fin.out⟩
end Go.Proofs.Ytabeljpnmmfpgaa

namespace Go.Proofs.Ytabeljpnmmfpgaa
open Go.RowKit Go.MapKept
set_option linter.unusedVariables false
set_option linter.unusedSimpArgs false

set_option maxRecDepth 100000 in
theorem cloneBytes_any (w : World) (v : Value) (l : List Int) (hl : l.length ≤ 140737488355328) (hb : BytesIn w v l) :
    Calls Try.prog 40 #[v] w fun e w' => ∃ v', e = .returned v' ∧ w'.ownsRow w.heap.size 5 1 v' l.length (byteCells l) ∧ Below w.heap.size w w' := by
  obtain ⟨i0, hi, hz0, hz1, hz2⟩ := info_parts infoU8
  obtain ⟨a, c, rfl, hcn, h2⟩ := hb
  cases a with
  | none =>
    have hl0 : l = [] := by
      cases l with
      | nil => rfl
      | cons x r => obtain ⟨_, _, h3, _⟩ := h2 (by simp); cases h3
    subst hl0
    obtain rfl := hcn rfl
    have he := Lib.run_eql_slice_nil (P := Try.prog) w 35 5 none 0 0 0 0 Try.underlying35
    have fin : Hid (w.ownsRow w.heap.size 5 1 (.slice none 0 0) ([] : List Int).length (byteCells [])) := World.ownsRow_nil _ _ _ _
    go_enter Try.func40, Try.ntmps40
    go_wp2_with (fail)
    go_ret
    exact ⟨_, rfl, fin.out, Below.refl _ _⟩
  | some ad =>
    have he := Lib.run_eql_slice_nil (P := Try.prog) w 35 5 (some ad) l.length c 0 0 Try.underlying35
    have Hn : Hid (∀ j u, (byteCells l)[j]? = some u → (w.alloc (.cells #[] 5)).cell? (ad.add j) = some u) := by
      intro j u hj
      obtain ⟨h1, rfl⟩ := byteCells_at hj
      obtain ⟨b, o, h3, h4⟩ := h2 (by omega)
      cases h3
      rw [addr_add]
      have := h4 j h1
      exact cell_keep (B := w.heap.size) ((Below.refl _ _).alloc (Nat.le_refl _) _) this (World.block_lt_of_cell? w _ this)
    have H1 := Lib.hid (byteCells_one l)
    have HL := Lib.hid (byteCells_length l)
    have own0 : Hid ((w.alloc (.cells #[] 5)).ownsRow w.heap.size 5 1 (.slice (some ⟨w.heap.size, 0, none⟩) 0 0) 0 []) := World.ownsRow_made _ _ 0 (Nat.le_refl _) (by simp [maxLen]) (by simp)
    have fin : Hid (∀ (v' : Value) (w1 : World), w1.ownsRow w.heap.size 5 1 v' (0 + l.length) ([] ++ byteCells l) → (w.alloc (.cells #[] 5)).grownBy w1 (some w.heap.size) → w1.ownsRow w.heap.size 5 1 v' l.length (byteCells l) ∧ Below w.heap.size w w1) := by
      intro v' w1 h1 h2
      exact ⟨by simpa using h1, ((Below.refl _ _).alloc (Nat.le_refl _) _).grown h2 (by simp) (fun k hk => by cases hk; exact Nat.le_refl _)⟩
    clear h2 hcn
    go_enter Try.func40, Try.ntmps40
    go_wp2_with (at_builtin; refine wpList_append_own _ rfl _ _ 35 rfl w.heap.size 5 i0 _ 1 1 Try.underlying35 hi hz0 hz1 hz2 rfl (by decide) _ 0 [] rfl own0.out ad l.length c (byteCells l) rfl HL.out Hn.out H1.out (by simp only [maxLen]; omega) (by omega) (by simp) ?_; intro v' w1 ho hgr _; obtain ⟨f1, f2⟩ := fin.out v' w1 ho hgr; clear ho hgr)
    go_ret
    exact ⟨_, rfl, f1, f2⟩
end Go.Proofs.Ytabeljpnmmfpgaa
