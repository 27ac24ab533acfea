/-
  slices.Sort of nil; slices.Sorted of a set's keys, of a map's keys.
-/
import Derived.Lib.Hide
import Derived.Lib.Strings
import Derived.Lib.Slices
import Derived.Lib.Small
import Derived.Lib.Walk
import Derived.Lib.BitFns
import Derived.Test.YtabeljpnmmfpgaaDoorFlSet
import Derived.Test.YtabeljpnmmfpgaaDoorFlSoF
namespace Go.Proofs.YtabeljpnmmfpgaaDoor
open Go.RowKit Go.Maps Go.Sort Go.Shelf Go.MapKept Go.Proofs
set_option linter.unusedVariables false
set_option linter.unusedSimpArgs false

/-! ### slices.Sort -/
set_option maxRecDepth 100000 in
set_option maxHeartbeats 4000000 in
theorem sort_nil (w : World) : Calls Tryd.prog 68 #[.slice none 0 0] w fun e w' => e = .returned (.tuple #[]) ∧ w' = w := by
  have ins : Hid (∀ w, Calls Tryd.prog 88 #[.slice none 0 0, .int .i64 0, .int .i64 0] w fun e w' => e = .returned (.tuple #[]) ∧ w' = w) := by
    intro w
    go_enter Tryd.func88, Tryd.ntmps88
    go_wp2_with (fail)
    go_loopw [6] (fun p wr => p = .int .i64 1 ∧ wr = w) (fun _ _ => 0)
    case atStart => exact ⟨by go_num, rfl⟩
    case round =>
      obtain ⟨rfl, rfl⟩ := hrel
      go_wp2_with (fail)
      first | go_end0 | refine bodyPost_ret (results_none rfl _ _ _) rfl ?_
      exact ⟨rfl, rfl⟩
  have pq : Hid (∀ (w : World) (L : Nat), Calls Tryd.prog 81 #[.slice none 0 0, .int .i64 0, .int .i64 0, .int .i64 (L : Int)] w fun e w' => e = .returned (.tuple #[]) ∧ w' = w) := by
    intro w L
    go_enter Tryd.func81, Tryd.ntmps81
    go_wp2_with (fail)
    go_loopw [1, 2, 3, 8, 9] (fun p1 p2 p3 p8 p9 wr => p1 = .int .i64 0 ∧ p2 = .int .i64 0 ∧ p3 = .int .i64 (L : Int) ∧ p8 = .bool true ∧ p9 = .bool true ∧ wr = w) (fun _ _ _ _ _ _ => 0)
    case atStart => exact ⟨rfl, rfl, rfl, rfl, rfl, rfl⟩
    case round =>
      obtain ⟨rfl, rfl, rfl, rfl, rfl, rfl⟩ := hrel
      go_wp2_with (fail)
      refine (ins.out _).mono ?_
      rintro e w1 ⟨rfl, rfl⟩
      go_wp2_with (fail)
      first | go_end0 | refine bodyPost_ret (results_none rfl _ _ _) rfl ?_
      exact ⟨rfl, rfl⟩
  clear ins
  go_enter Tryd.func68, Tryd.ntmps68
  go_wp2_with (first | (go_at_call 58; refine (len_any _ _ (by decide) (by decide)).mono ?_; rintro e w1 ⟨⟨L, rfl, hL, hp⟩, rfl⟩; clear hp) | (go_at_call 81; refine (pq.out _ L).mono ?_; rintro e w1 ⟨rfl, rfl⟩))
  first | go_end0 | refine bodyPost_ret (results_none rfl _ _ _) rfl ?_
  exact ⟨rfl, rfl⟩

/-! ### slices.Sorted of keys -/
theorem KeysOf.inj {f : Int → Option Value} {ss : List Int} (h : KeysOf f ss) : Inj ss.length (fun j => ss.getD j 0) := fun i j hi hj e => by
  simp only [List.getD_eq_getElem?_getD, List.getElem?_eq_getElem hi, List.getElem?_eq_getElem hj, Option.getD_some] at e
  exact (List.getElem_inj h.1).1 e

/-- The sorted list of a row that ascends. -/
theorem sorted_list {f : Int → Option Value} {ss : List Int} (h : KeysOf f ss) {d' : Nat → Int} (hp : Pm 0 ss.length (fun j => ss.getD j 0) d') (ha : Asc 0 ss.length d') :
    ((List.range ss.length).map d').Pairwise (fun x y => x < y) ∧ ∀ x, x ∈ (List.range ss.length).map d' ↔ (f x).isSome = true := by
  have hi := hp.inj (Nat.le_refl _) h.inj
  constructor
  · refine List.pairwise_map.2 (List.pairwise_lt_range.imp_of_mem fun {a b} h1 h2 h3 => ?_)
    have h4 := List.mem_range.1 h1
    have h5 := List.mem_range.1 h2
    have h6 := ha a b (Nat.zero_le _) (by omega) h5
    have h7 : d' a ≠ d' b := fun e => by have := hi a b h4 h5 e; omega
    omega
  · intro x
    rw [← h.2 x, List.mem_map]
    constructor
    · rintro ⟨k, hk, rfl⟩
      obtain ⟨m, _, hm, e⟩ := hp.mem k (Nat.zero_le _) (List.mem_range.1 hk)
      rw [e]
      show ss.getD m 0 ∈ ss
      rw [List.getD_eq_getElem?_getD, List.getElem?_eq_getElem hm]
      exact List.getElem_mem hm
    · intro hx
      obtain ⟨m, hm, rfl⟩ := List.mem_iff_getElem.1 hx
      obtain ⟨k, _, hk, e⟩ := hp.mem' m (Nat.zero_le _) hm
      refine ⟨k, List.mem_range.2 hk, ?_⟩
      rw [← e]
      show ss.getD m 0 = _
      rw [List.getD_eq_getElem?_getD, List.getElem?_eq_getElem hm]; rfl

/-- What Sorted hands back: the keys in order, a row of its own. -/
def SortedRow (f : Int → Option Value) (w W : World) (v : Value) : Prop := ∃ ss : List Int, ss.Pairwise (fun x y => x < y) ∧ (∀ x, x ∈ ss ↔ (f x).isSome = true) ∧ RowU W w.heap.size v ss ∧ Below w.heap.size w W

theorem sortRow_any {f : Int → Option Value} {w W : World} {v : Value} (hlen : ∀ ss, KeysOf f ss → ss.length ≤ sortMax) (h : ∃ ss, KeysOf f ss ∧ RowU W w.heap.size v ss ∧ Below w.heap.size w W) :
    Calls Tryd.prog 68 #[v] W fun e w' => e = .returned (.tuple #[]) ∧ Hid (SortedRow f w w' v) := by
  obtain ⟨ss, hA, hK, hB⟩ := h
  rcases hK.rw_ with ⟨rfl, rfl⟩ | ⟨g, c', rfl, hg, hR⟩
  · refine (sort_nil W).mono ?_
    rintro e w' ⟨rfl, rfl⟩
    exact ⟨rfl, [], List.Pairwise.nil, fun x => by rw [← hA.2 x], hK, hB⟩
  · refine (sort_any W g ss.length c' _ hR hA.inj (hlen ss hA)).mono ?_
    rintro e w' ⟨rfl, d', h1, h2, h3⟩
    obtain ⟨k1, k2⟩ := sorted_list hA h2 h3
    exact ⟨rfl, _, k1, k2, hK.of_rw rfl h1, hB.trans (h1.upd.below hB.size (fun i e => by omega))⟩

set_option maxRecDepth 100000 in
set_option maxHeartbeats 4000000 in
theorem sortedS_any {f : Int → Option Value} {w : World} {b c : Nat} (h : MapAt w b f) (hc : w.cell? ⟨c, 0, none⟩ = some (.map (some b))) (hlt : c < w.heap.size) (hlen : ∀ ss, KeysOf f ss → ss.length ≤ sortMax) :
    Calls Tryd.prog 54 #[.func (.func 67) #[] #[.pointer (some ⟨c, 0, none⟩)]] w fun e w' => ∃ v, e = .returned v ∧ Hid (SortedRow f w w' v) := by
  have co := Lib.hid (collectS_any h hc hlt)
  have HL := Lib.hid hlen
  clear h hc hlen hlt
  go_enter Tryd.func54, Tryd.ntmps54
  go_wp2_with (first
    | (go_at_call 49; refine co.out.mono ?_; rintro e W ⟨v, rfl, hk⟩)
    | (go_at_call 68; refine (sortRow_any HL.out hk.out).mono ?_; rintro e W' ⟨rfl, hf⟩))
  go_ret
  exact ⟨_, rfl, hf⟩

set_option maxRecDepth 100000 in
set_option maxHeartbeats 4000000 in
theorem sortedF_any {f : Int → Option Value} {w : World} {b c : Nat} (h : MapAt w b f) (hc : w.cell? ⟨c, 0, none⟩ = some (.map (some b))) (hlt : c < w.heap.size) (hlen : ∀ ss, KeysOf f ss → ss.length ≤ sortMax) :
    Calls Tryd.prog 54 #[.func (.func 69) #[] #[.pointer (some ⟨c, 0, none⟩)]] w fun e w' => ∃ v, e = .returned v ∧ Hid (SortedRow f w w' v) := by
  have co := Lib.hid (collectF_any h hc hlt)
  have HL := Lib.hid hlen
  clear h hc hlen hlt
  go_enter Tryd.func54, Tryd.ntmps54
  go_wp2_with (first
    | (go_at_call 49; refine co.out.mono ?_; rintro e W ⟨v, rfl, hk⟩)
    | (go_at_call 68; refine (sortRow_any HL.out hk.out).mono ?_; rintro e W' ⟨rfl, hf⟩))
  go_ret
  exact ⟨_, rfl, hf⟩
end Go.Proofs.YtabeljpnmmfpgaaDoor
