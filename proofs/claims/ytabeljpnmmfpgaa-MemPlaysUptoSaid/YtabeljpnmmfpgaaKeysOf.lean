/-
  slices.Sorted(maps.Keys(m)) at this program's map of uint8 keys, at most 16 of them, in the words of IMap.
-/
import Derived.Test.YtabeljpnmmfpgaaBase
import Derived.Test.YtabeljpnmmfpgaaKe1
import Derived.Test.YtabeljpnmmfpgaaKe2
import Derived.Test.YtabeljpnmmfpgaaMemOwn
namespace Go.Proofs.Ytabeljpnmmfpgaa
open Go.RowKit Go.Maps Go.Sort Go.Shelf Go.MapKept Go.Proofs
set_option linter.unusedVariables false
set_option linter.unusedSimpArgs false

theorem nodup_small : ∀ (n : Nat) (l : List Nat), l.Nodup → (∀ x ∈ l, x < n) → l.length ≤ n
  | 0, l, _, h => by
    cases l with
    | nil => simp
    | cons a t => exact absurd (h a (by simp)) (by omega)
  | n + 1, l, hn, h => by
    have h1 := nodup_small n (l.erase n) (hn.erase n) (fun x hx => by
      have h2 := (hn.mem_erase_iff).1 hx
      have h3 := h x h2.2
      have h4 : x ≠ n := h2.1
      omega)
    rw [List.length_erase] at h1
    split at h1 <;> omega

theorem imap_small {q : IntKind} {es : Array MapEntry} {clk : Nat} {f : Int → Option Value} (h : IMap q es clk f) {m : Nat} (hr : ∀ n v, f n = some v → 0 ≤ n ∧ n < m) : es.size ≤ m := by
  have key : ∀ x ∈ es.toList, ∃ n : Nat, x.key = .int q n ∧ n < m := fun x hx => by
    obtain ⟨n, hn⟩ := h.keys x hx
    have := hr n x.val ((h.rep n x.val).2 ⟨x, hx, hn, rfl⟩)
    exact ⟨n.toNat, by rw [hn]; congr 1; omega, by omega⟩
  have hnd := h.st.2.2
  have hl := nodup_small m (es.toList.map fun x => match x.key with | .int _ n => n.toNat | _ => 0) (by
    refine List.pairwise_map.2 ((List.pairwise_map.1 hnd).imp_of_mem fun {a b} ha hb hne e => hne ?_)
    obtain ⟨n, hn, _⟩ := key a ha
    obtain ⟨k, hk, _⟩ := key b hb
    rw [hn, hk] at e ⊢
    dsimp only at e
    congr 1; omega) (by
    intro x hx
    obtain ⟨a, ha, rfl⟩ := List.mem_map.1 hx
    obtain ⟨n, hn, hm⟩ := key a ha
    rw [hn]; dsimp only; omega)
  simpa using hl

/-- What the kit's iterator asks of a map, out of IMap. -/
theorem imap_owns {es : Array MapEntry} {clk : Nat} {f : Int → Option Value} {w : World} {b : Nat} (h : IMap .u8 es clk f) (hb : w.heap[b]? = some (.map es clk)) (hr : ∀ n v, f n = some v → 0 ≤ n ∧ n < 16) {k : TypeId} (hk : Try.prog.underlying k = some (.int .u8)) :
    ∃ D0 : DataW Unit, w.ownsMap Try.prog k (fun _ => some (.lit (.bool true), [])) b 16 D0 ∧ Maps.size D0 ≤ 16 ∧ ∀ x, has D0 (.int .u8 x) = true ↔ (f x).isSome = true := by
  have hsz : es.size ≤ 16 := imap_small (m := 16) h (fun n v hv => by have := hr n v hv; exact ⟨this.1, by simpa using this.2⟩)
  have key : ∀ x ∈ es.toList, ∃ n : Int, x.key = .int .u8 n ∧ (f n).isSome = true ∧ WideElems.rg (H := Unit) Try.prog k (fun _ => some (.lit (.bool true), [])) x = (.int .u8 n, .lit (.bool true)) ∧ WideElems.rd (H := Unit) Try.prog k (fun _ => some (.lit (.bool true), [])) x = some (.int .u8 n, .lit (.bool true)) := fun x hx => by
    obtain ⟨n, hn⟩ := h.keys x hx
    have hf := (h.rep n x.val).2 ⟨x, hx, hn, rfl⟩
    have hb := hr n x.val hf
    have hkey : keyOf Try.prog k x.key = some (.int .u8 n) := by
      rw [hn]; simp [keyOf, hk, mapKey, Lit.wf]; show (0:Int) ≤ n ∧ n ≤ 255; omega
    have hrd : WideElems.rd (H := Unit) Try.prog k (fun _ => some (.lit (.bool true), [])) x = some (.int .u8 n, .lit (.bool true)) := by simp [WideElems.rd, hkey]
    exact ⟨n, hn, by rw [hf]; rfl, by simp [WideElems.rg, hrd], hrd⟩
  refine ⟨_, ⟨es, clk, hb, ⟨by simp only [maxLen]; omega, h.st, fun x hx => ?_⟩, hsz, rfl⟩, ?_, ?_⟩
  · obtain ⟨n, _, _, _, e⟩ := key x hx
    exact ⟨_, e⟩
  · rw [size_eq, length_sorted]; simpa using hsz
  · intro x
    rw [has_eq, List.any_eq_true]
    have hp := WideShapes.sorted_perm (es.toList.map (WideElems.rg (H := Unit) Try.prog k (fun _ => some (.lit (.bool true), []))))
    constructor
    · rintro ⟨p, hp1, hp2⟩
      obtain ⟨a, ha, rfl⟩ := List.mem_map.1 (hp.mem_iff.1 hp1)
      obtain ⟨n, hn, hf, e1, _⟩ := key a ha
      rw [e1] at hp2
      have e : n = x := by simpa [Lit.sameKey] using hp2
      rw [← e]; exact hf
    · intro hx
      obtain ⟨v, hv⟩ := Option.isSome_iff_exists.1 hx
      obtain ⟨a, ha, hak, _⟩ := (h.rep x v).1 hv
      obtain ⟨n, hn, hf, e1, _⟩ := key a ha
      rw [hak] at hn
      cases hn
      exact ⟨_, hp.mem_iff.2 (List.mem_map.2 ⟨a, ha, rfl⟩), by rw [e1]; simp [Lit.sameKey]⟩

set_option maxRecDepth 100000 in
set_option maxHeartbeats 4000000 in
theorem keysOf_any (mb : Option Nat) (w : World) : Calls Try.prog 42 #[.map mb] w fun e w' =>
    e = .returned (.func (.func 57) #[] #[.pointer (some ⟨w.heap.size, 0, none⟩)]) ∧ w' = w.alloc (.cells #[.map mb] 82) := by
  go_enter Try.func42, Try.ntmps42
  go_wp2
  go_ret
  exact ⟨rfl, rfl⟩

/-- What the row of keys is, before and behind the sort. -/
def KRow (w W : World) (v : Value) (ss : List Int) : Prop :=
  (v = .slice none 0 0 ∧ ss = []) ∨ ∃ g c, v = .slice (some ⟨g, 0, none⟩) ss.length c ∧ w.heap.size ≤ g ∧ Rw W W g ss.length (fun j => ss.getD j 0)

theorem KRow.of_own {w W : World} {v : Value} {ss : List Int} (h : W.ownsRow w.heap.size 5 1 v ss.length (ss.map (Value.int .u8))) : KRow w W v ss := by
  rcases h.2 with ⟨rfl, h0⟩ | ⟨g, cap, cur, rfl, hg, hh, _, _, _, hc⟩
  · exact .inl ⟨rfl, List.eq_nil_of_length_eq_zero h0⟩
  · refine .inr ⟨g, cap, rfl, hg, Upd.refl _ _, cur, hh, fun j hj => ?_⟩
    rw [← Array.getElem?_toList]
    have h1 : (ss.map (Value.int .u8))[j]? = some (.int .u8 (ss.getD j 0)) := by
      rw [List.getElem?_map, List.getD_eq_getElem?_getD, List.getElem?_eq_getElem hj]; rfl
    rw [← hc, List.getElem?_take] at h1
    split at h1
    · exact h1
    · cases h1

theorem AllKeys.inj {H : Type} {D0 : DataW H} {ss : List Int} (h : AllKeys D0 ss) : Inj ss.length (fun j => ss.getD j 0) := fun i j hi hj e => by
  simp only [List.getD_eq_getElem?_getD, List.getElem?_eq_getElem hi, List.getElem?_eq_getElem hj, Option.getD_some] at e
  exact (List.getElem_inj h.1).1 e

/-- The sorted list of a row that ascends. -/
theorem sorted_list {H : Type} {D0 : DataW H} {ss : List Int} (h : AllKeys D0 ss) {d' : Nat → Int} (hp : Pm 0 ss.length (fun j => ss.getD j 0) d') (ha : Asc 0 ss.length d') :
    ((List.range ss.length).map d').Pairwise (fun x y => x < y) ∧ ∀ x, x ∈ (List.range ss.length).map d' ↔ has D0 (.int .u8 x) = true := by
  have hi := hp.inj (Nat.le_refl _) h.inj
  constructor
  · refine List.pairwise_map.2 (List.pairwise_lt_range.imp_of_mem fun {a b} h1 h2 h3 => ?_)
    have h4 := List.mem_range.1 h1
    have h5 := List.mem_range.1 h2
    have h6 := ha a b (Nat.zero_le _) (by omega) h5
    have h7 : d' a ≠ d' b := fun e => by have := hi a b h4 h5 e; omega
    omega
  · intro x
    rw [← h.2 x, List.mem_map]
    constructor
    · rintro ⟨k, hk, rfl⟩
      obtain ⟨m, _, hm, e⟩ := hp.mem k (Nat.zero_le _) (List.mem_range.1 hk)
      rw [e]
      show ss.getD m 0 ∈ ss
      rw [List.getD_eq_getElem?_getD, List.getElem?_eq_getElem hm]
      exact List.getElem_mem hm
    · intro hx
      obtain ⟨m, hm, rfl⟩ := List.mem_iff_getElem.1 hx
      obtain ⟨k, _, hk, e⟩ := hp.mem' m (Nat.zero_le _) hm
      refine ⟨k, List.mem_range.2 hk, ?_⟩
      rw [← e]
      show ss.getD m 0 = _
      rw [List.getD_eq_getElem?_getD, List.getElem?_eq_getElem hm]; rfl

/-- What Sorted hands back. -/
def SRow (w W : World) (v : Value) (ss : List Int) : Prop :=
  BytesIn W v ss ∧ (∀ b o n c, v = .slice (some ⟨b, o, none⟩) n c → w.heap.size ≤ b ∧ ∃ cs z, W.heap[b]? = some (.cells cs 5 z)) ∧ Below w.heap.size w W

theorem SRow.nil {w W : World} (hb : Below w.heap.size w W) : SRow w W (.slice none 0 0) [] :=
  ⟨⟨_, _, rfl, fun _ => rfl, fun h => absurd h (by decide)⟩, (fun b o n c e => by cases e), hb⟩
theorem SRow.row {w W W' : World} {g n c : Nat} {d : Nat → Int} (hb : Below w.heap.size w W) (hg : w.heap.size ≤ g) (h : Rw W W' g n d) : SRow w W' (.slice (some ⟨g, 0, none⟩) n c) ((List.range n).map d) := by
  refine ⟨⟨some ⟨g, 0, none⟩, c, by simp, (fun e => by cases e), fun _ => ⟨g, 0, rfl, fun j hj => ?_⟩⟩, fun b o n' c' e => ?_, hb.trans (h.upd.below hb.size (fun i e => by omega))⟩
  · have hj' : j < n := by simpa using hj
    rw [Nat.zero_add, h.cell hj', List.getD_eq_getElem?_getD, List.getElem?_eq_getElem hj]
    simp
  · cases e
    obtain ⟨cs, h1, _⟩ := h.row
    exact ⟨hg, cs, _, h1⟩

set_option maxRecDepth 100000 in
set_option maxHeartbeats 4000000 in
theorem collect_any {D0 : DataW Unit} {b nn : Nat} {w : World} {c : Nat} {R : Value → Option (DataW Unit × List MemPlace)} (hc : c < w.heap.size) (hm : w.cell? ⟨c, 0, none⟩ = some (.map (some b))) (hown : w.ownsMap Try.prog 5 R b nn D0) (hsz : Maps.size D0 ≤ 1000000) :
    Calls Try.prog 55 #[.func (.func 57) #[] #[.pointer (some ⟨c, 0, none⟩)]] w fun e W => ∃ v, e = .returned v ∧ Hid (∃ ss, AllKeys D0 ss ∧ KRow w W v ss ∧ Below w.heap.size w W) := by
  have ap := Lib.hid (appendKeys c b nn D0 R w hc hm hown hsz)
  clear hm hown hsz
  go_enter Try.func55, Try.ntmps55
  go_wp2_with (go_at_call 59; refine ap.out.mono ?_; rintro e W ⟨v, ss, rfl, h1, h2, h3, h4⟩; have FIN : Hid (∃ ss, AllKeys D0 ss ∧ KRow w W v ss ∧ Below w.heap.size w W) := ⟨ss, h1, KRow.of_own h2, h4⟩; clear h1 h2 h3 h4)
  go_ret
  exact ⟨_, rfl, FIN⟩

set_option maxRecDepth 100000 in
set_option maxHeartbeats 4000000 in
theorem sortedOf_any {es : Array MapEntry} {clk : Nat} {f : Int → Option Value} {w : World} {b : Nat} (h : IMap .u8 es clk f) (hb : w.heap[b]? = some (.map es clk)) (hr : ∀ n v, f n = some v → 0 ≤ n ∧ n < 16) (c : Nat) (hc : w.heap[c]? = some (.cells #[.map (some b)] 82 (0, 0))) :
    Calls Try.prog 41 #[.func (.func 57) #[] #[.pointer (some ⟨c, 0, none⟩)]] w fun e w' => ∃ (v : Value) (ss : List Int), e = .returned v ∧
      ss.Pairwise (fun x y => x < y) ∧ (∀ x, x ∈ ss ↔ (f x).isSome = true) ∧ SRow w w' v ss := by
  obtain ⟨D0, hown, hsize, hss⟩ := imap_owns h hb hr (k := 5) Try.underlying5
  have hlt : c < w.heap.size := heap_lt hc
  have hmc : w.cell? ⟨c, 0, none⟩ = some (.map (some b)) := by rw [cell_of hc]; rfl
  have co := Lib.hid (collect_any hlt hmc hown (by omega))
  have len : Hid (∀ ss, AllKeys D0 ss → ss.length ≤ 16) := fun ss hA => by
    have h1 : ∀ x ∈ ss, 0 ≤ x ∧ x < 16 := fun x hx => by
      obtain ⟨v, hv⟩ := Option.isSome_iff_exists.1 ((hss x).1 ((hA.2 x).1 hx))
      exact hr x v hv
    have h2 := nodup_small 16 (ss.map Int.toNat) (by
      refine List.pairwise_map.2 (hA.1.imp_of_mem fun {a b} ha hb hne e => hne ?_)
      have := h1 a ha; have := h1 b hb; omega) (by
      intro x hx
      obtain ⟨a, ha, rfl⟩ := List.mem_map.1 hx
      have := h1 a ha; omega)
    simpa using h2
  have HS := Lib.hid hss
  clear h hb hr hc hown hsize hss hlt hmc
  have mid : Hid (∀ (W : World) (v : Value), (∃ ss, AllKeys D0 ss ∧ KRow w W v ss ∧ Below w.heap.size w W) → Calls Try.prog 56 #[v] W fun e w' => e = .returned (.tuple #[]) ∧ Hid (∃ ss : List Int, ss.Pairwise (fun x y => x < y) ∧ (∀ x, x ∈ ss ↔ (f x).isSome = true) ∧ SRow w w' v ss)) := by
    rintro W v ⟨ss, hA, hK, hB⟩
    rcases hK with ⟨rfl, rfl⟩ | ⟨g, c', rfl, hg, hR⟩
    · refine (sort_nil W).mono ?_
      rintro e w' ⟨rfl, rfl⟩
      exact ⟨rfl, [], List.Pairwise.nil, fun x => by rw [hA.2 x, HS.out x], SRow.nil hB⟩
    · refine (sort_any W g ss.length c' _ hR hA.inj (len.out ss hA)).mono ?_
      rintro e w' ⟨rfl, d', h1, h2, h3⟩
      obtain ⟨k1, k2⟩ := sorted_list hA h2 h3
      exact ⟨rfl, _, k1, fun x => by rw [k2 x, HS.out x], SRow.row hB hg h1⟩
  clear len HS
  go_enter Try.func41, Try.ntmps41
  go_wp2_with (first
    | (go_at_call 55; refine co.out.mono ?_; rintro e W ⟨v, rfl, hk⟩)
    | (go_at_call 56; refine (mid.out _ _ hk).mono ?_; rintro e W' ⟨rfl, hf⟩))
  go_ret
  obtain ⟨ss, h1, h2, h3⟩ := hf
  exact ⟨_, ss, rfl, h1, h2, h3⟩
end Go.Proofs.Ytabeljpnmmfpgaa
