/-
  Sets of addresses and maps keyed by addresses: their keys in order; the least of a set.
-/
import Derived.Test.YtabeljpnmmfpgaaDoorBase
import Derived.Test.YtabeljpnmmfpgaaDoorFlSort
import Derived.Test.YtabeljpnmmfpgaaDoorFlKeys
namespace Go.Proofs.YtabeljpnmmfpgaaDoor
open Go.RowKit Go.Maps Go.Sort Go.Shelf Go.MapKept Go.Proofs
set_option linter.unusedVariables false
set_option linter.unusedSimpArgs false

/-! ### rows of addresses -/
/-- A row of addresses of the call's own. -/
def RowU (w : World) (base : Nat) (v : Value) (ss : List Int) : Prop := w.ownsRow base 23 1 v ss.length (ss.map (Value.int .u16))
theorem RowU.nil (w : World) (base : Nat) : RowU w base (.slice none 0 0) [] := World.ownsRow_nil _ _ _ _
theorem RowU.move {w W : World} {base : Nat} {v : Value} {ss : List Int} (h : RowU w base v ss) (hm : ∀ k, v.ownBlock = some k → W.heap[k]? = w.heap[k]?) : RowU W base v ss := by
  obtain ⟨h1, h2⟩ := h
  refine ⟨h1, ?_⟩
  rcases h2 with h2 | ⟨g, cap, cur, rfl, hg, hh, r⟩
  · exact .inl h2
  · exact .inr ⟨g, cap, cur, rfl, hg, (hm g (by simp [Value.ownBlock])).trans hh, r⟩
theorem RowU.lt {w : World} {base : Nat} {v : Value} {ss : List Int} (h : RowU w base v ss) (k : Nat) (hk : v.ownBlock = some k) : k < w.heap.size ∧ base ≤ k := by
  rcases h.2 with ⟨rfl, _⟩ | ⟨g, cap, cur, rfl, hb, hh, _⟩
  · simp [Value.ownBlock] at hk
  · have : g = k := by simpa [Value.ownBlock] using hk
    subst this
    exact ⟨heap_lt hh, hb⟩
theorem RowU.below {w W : World} {base : Nat} {v : Value} {ss : List Int} (h : RowU w base v ss) (hb : Below w.heap.size w W) : RowU W base v ss := h.move (fun k hk => hb.block k (h.lt k hk).1)
theorem RowU.lower {w : World} {base base' : Nat} {v : Value} {ss : List Int} (h : RowU w base v ss) (hb : base' ≤ base) : RowU w base' v ss := by
  obtain ⟨h1, h2⟩ := h
  refine ⟨h1, ?_⟩
  rcases h2 with h2 | ⟨g, cap, cur, rfl, hg, r⟩
  · exact .inl h2
  · exact .inr ⟨g, cap, cur, rfl, Nat.le_trans hb hg, r⟩
theorem RowU.slice {w : World} {base : Nat} {v : Value} {ss : List Int} (h : RowU w base v ss) : ∃ A c, v = .slice A ss.length c := by
  rcases h.2 with ⟨rfl, hn⟩ | ⟨g, cap, cur, rfl, _⟩
  · exact ⟨none, 0, by rw [hn]⟩
  · exact ⟨_, cap, rfl⟩

theorem RowU.rw_ {w : World} {base : Nat} {v : Value} {ss : List Int} (h : RowU w base v ss) : (v = .slice none 0 0 ∧ ss = []) ∨ ∃ g c, v = .slice (some ⟨g, 0, none⟩) ss.length c ∧ base ≤ g ∧ Rw w w g ss.length (fun j => ss.getD j 0) := by
  rcases h.2 with ⟨rfl, h0⟩ | ⟨g, cap, cur, rfl, hg, hh, _, _, _, hc⟩
  · exact .inl ⟨rfl, List.eq_nil_of_length_eq_zero h0⟩
  · refine .inr ⟨g, cap, rfl, hg, Upd.refl _ _, (fun c0 c1 e0 e1 => by rw [e0] at e1; cases e1; rfl), cur, hh, fun j hj => ?_⟩
    rw [← Array.getElem?_toList]
    have h1 : (ss.map (Value.int .u16))[j]? = some (.int .u16 (ss.getD j 0)) := by
      rw [List.getElem?_map, List.getD_eq_getElem?_getD, List.getElem?_eq_getElem hj]; rfl
    rw [← hc, List.getElem?_take] at h1
    split at h1
    · exact h1
    · cases h1

theorem RowU.of_rw {w W : World} {base g n c : Nat} {ss : List Int} {d : Nat → Int} (h : RowU w base (.slice (some ⟨g, 0, none⟩) n c) ss) (hn : ss.length = n) (k : Rw w W g n d) : RowU W base (.slice (some ⟨g, 0, none⟩) n c) ((List.range n).map d) := by
  subst hn
  obtain ⟨cs, k1, k2⟩ := k.row
  rcases h.2 with ⟨h0, _⟩ | ⟨g', cap, cur, h0, hg, hh, h3, h4, h5, hc⟩
  · cases h0
  · cases h0
    refine ⟨by simp, .inr ⟨_, _, cs, by simp, hg, k1, by simpa using h3, h4, ?_, ?_⟩⟩
    · rw [k.sz cur cs hh k1]; exact h5
    · apply List.ext_getElem?
      intro j
      rw [List.getElem?_take]
      simp only [List.length_map, List.length_range, Nat.mul_one]
      by_cases hj : j < ss.length
      · rw [if_pos hj, Array.getElem?_toList, k2 j hj]
        simp [List.getElem?_range, hj]
      · rw [if_neg hj]
        simp [List.getElem?_eq_none, Nat.le_of_not_lt hj]

/-! ### maps keyed by addresses -/
structure MapAt (w : World) (b : Nat) (f : Int → Option Value) : Prop where
  ex : ∃ es clk, w.heap[b]? = some (.map es clk) ∧ IMap .u16 es clk f
  dom : ∀ n v, f n = some v → 0 ≤ n ∧ n < 65536
theorem MapAt.lt {w : World} {b : Nat} {f : Int → Option Value} (h : MapAt w b f) : b < w.heap.size := by
  obtain ⟨es, clk, hb, _⟩ := h.ex
  exact heap_lt hb
theorem MapAt.move {w W : World} {b : Nat} {f : Int → Option Value} (h : MapAt w b f) (hm : W.heap[b]? = w.heap[b]?) : MapAt W b f := by
  obtain ⟨es, clk, hb, hi⟩ := h.ex
  exact ⟨⟨es, clk, hm.trans hb, hi⟩, h.dom⟩
theorem MapAt.upd {w W : World} {b : Nat} {f : Int → Option Value} {S : Nat → Prop} (h : MapAt w b f) (hu : Upd w W S) (hs : ¬ S b) : MapAt W b f := h.move (hu.block b h.lt hs)
theorem MapAt.below {w W : World} {b : Nat} {f : Int → Option Value} (h : MapAt w b f) (hb : Below w.heap.size w W) : MapAt W b f := h.move (hb.block b h.lt)
theorem MapAt.drewN {w : World} {b : Nat} {f : Int → Option Value} (h : MapAt w b f) (n : Nat) : MapAt (w.drewN n) b f := h.move rfl
theorem MapAt.ext {w : World} {b : Nat} {f f' : Int → Option Value} (h : MapAt w b f) (e : ∀ n, f' n = f n) : MapAt w b f' := by
  obtain rfl : f' = f := funext e
  exact h

/-- A set of addresses, as a list that rises. -/
def setFn (S : List Int) : Int → Option Value := fun n => if n ∈ S then some (.bool true) else none
theorem setFn_some {S : List Int} {n : Int} : (setFn S n).isSome = true ↔ n ∈ S := by
  unfold setFn; split <;> simp [*]
def SetAt (w : World) (b : Nat) (S : List Int) : Prop := MapAt w b (setFn S)
theorem SetAt.dom {w : World} {b : Nat} {S : List Int} (h : SetAt w b S) : ∀ n ∈ S, 0 ≤ n ∧ n < 65536 := fun n hn => MapAt.dom h n (.bool true) (by simp [setFn, hn])
theorem SetAt.same {w : World} {b : Nat} {S T : List Int} (h : SetAt w b S) (e : ∀ n, n ∈ T ↔ n ∈ S) : SetAt w b T := MapAt.ext h (fun n => by simp [setFn, e n])

theorem nodup_small : ∀ (n : Nat) (l : List Nat), l.Nodup → (∀ x ∈ l, x < n) → l.length ≤ n
  | 0, l, _, h => by
    cases l with
    | nil => simp
    | cons a t => exact absurd (h a (by simp)) (by omega)
  | n + 1, l, hn, h => by
    have h1 := nodup_small n (l.erase n) (hn.erase n) (fun x hx => by
      have h2 := (hn.mem_erase_iff).1 hx
      have h3 := h x h2.2
      have h4 : x ≠ n := h2.1
      omega)
    rw [List.length_erase] at h1
    split at h1 <;> omega

theorem imap_small {q : IntKind} {es : Array MapEntry} {clk : Nat} {f : Int → Option Value} (h : IMap q es clk f) {m : Nat} (hr : ∀ n v, f n = some v → 0 ≤ n ∧ n < m) : es.size ≤ m := by
  have key : ∀ x ∈ es.toList, ∃ n : Nat, x.key = .int q n ∧ n < m := fun x hx => by
    obtain ⟨n, hn⟩ := h.keys x hx
    have := hr n x.val ((h.rep n x.val).2 ⟨x, hx, hn, rfl⟩)
    exact ⟨n.toNat, by rw [hn]; congr 1; omega, by omega⟩
  have hnd := h.st.2.2
  have hl := nodup_small m (es.toList.map fun x => match x.key with | .int _ n => n.toNat | _ => 0) (by
    refine List.pairwise_map.2 ((List.pairwise_map.1 hnd).imp_of_mem fun {a b} ha hb hne e => hne ?_)
    obtain ⟨n, hn, _⟩ := key a ha
    obtain ⟨k, hk, _⟩ := key b hb
    rw [hn, hk] at e ⊢
    dsimp only at e
    congr 1; omega) (by
    intro x hx
    obtain ⟨a, ha, rfl⟩ := List.mem_map.1 hx
    obtain ⟨n, hn, hm⟩ := key a ha
    rw [hn]; dsimp only; omega)
  simpa using hl

/-- What the kit's iterator asks of a map, out of IMap. -/
theorem imap_owns {es : Array MapEntry} {clk : Nat} {f : Int → Option Value} {w : World} {b : Nat} (h : IMap .u16 es clk f) (hb : w.heap[b]? = some (.map es clk)) (hr : ∀ n v, f n = some v → 0 ≤ n ∧ n < 65536) {k : TypeId} (hk : Tryd.prog.underlying k = some (.int .u16)) :
    ∃ D0 : DataW Unit, w.ownsMap Tryd.prog k (fun _ => some (.lit (.bool true), [])) b 65536 D0 ∧ Maps.size D0 ≤ 65536 ∧ ∀ x, has D0 (.int .u16 x) = true ↔ (f x).isSome = true := by
  have hsz : es.size ≤ 65536 := imap_small (m := 65536) h (fun n v hv => by have := hr n v hv; exact ⟨this.1, by simpa using this.2⟩)
  have key : ∀ x ∈ es.toList, ∃ n : Int, x.key = .int .u16 n ∧ (f n).isSome = true ∧ WideElems.rg (H := Unit) Tryd.prog k (fun _ => some (.lit (.bool true), [])) x = (.int .u16 n, .lit (.bool true)) ∧ WideElems.rd (H := Unit) Tryd.prog k (fun _ => some (.lit (.bool true), [])) x = some (.int .u16 n, .lit (.bool true)) := fun x hx => by
    obtain ⟨n, hn⟩ := h.keys x hx
    have hf := (h.rep n x.val).2 ⟨x, hx, hn, rfl⟩
    have hb := hr n x.val hf
    have hkey : keyOf Tryd.prog k x.key = some (.int .u16 n) := by
      rw [hn]; simp [keyOf, hk, mapKey, Lit.wf]; show (0:Int) ≤ n ∧ n ≤ 65535; omega
    have hrd : WideElems.rd (H := Unit) Tryd.prog k (fun _ => some (.lit (.bool true), [])) x = some (.int .u16 n, .lit (.bool true)) := by simp [WideElems.rd, hkey]
    exact ⟨n, hn, by rw [hf]; rfl, by simp [WideElems.rg, hrd], hrd⟩
  refine ⟨_, ⟨es, clk, hb, ⟨by simp only [maxLen]; omega, h.st, fun x hx => ?_⟩, hsz, rfl⟩, ?_, ?_⟩
  · obtain ⟨n, _, _, _, e⟩ := key x hx
    exact ⟨_, e⟩
  · rw [size_eq, length_sorted]; simpa using hsz
  · intro x
    rw [has_eq, List.any_eq_true]
    have hp := WideShapes.sorted_perm (es.toList.map (WideElems.rg (H := Unit) Tryd.prog k (fun _ => some (.lit (.bool true), []))))
    constructor
    · rintro ⟨p, hp1, hp2⟩
      obtain ⟨a, ha, rfl⟩ := List.mem_map.1 (hp.mem_iff.1 hp1)
      obtain ⟨n, hn, hf, e1, _⟩ := key a ha
      rw [e1] at hp2
      have e : n = x := by simpa [Lit.sameKey] using hp2
      rw [← e]; exact hf
    · intro hx
      obtain ⟨v, hv⟩ := Option.isSome_iff_exists.1 hx
      obtain ⟨a, ha, hak, _⟩ := (h.rep x v).1 hv
      obtain ⟨n, hn, hf, e1, _⟩ := key a ha
      rw [hak] at hn
      cases hn
      exact ⟨_, hp.mem_iff.2 (List.mem_map.2 ⟨a, ha, rfl⟩), by rw [e1]; simp [Lit.sameKey]⟩

theorem MapAt.owns {f : Int → Option Value} {w : World} {b : Nat} (h : MapAt w b f) : ∃ D0 : DataW Unit, w.ownsMap Tryd.prog 23 (fun _ => some (.lit (.bool true), [])) b 65536 D0 ∧ Maps.size D0 ≤ 65536 ∧ ∀ x, has D0 (.int .u16 x) = true ↔ (f x).isSome = true := by
  obtain ⟨es, clk, hb, hi⟩ := h.ex
  exact imap_owns hi hb h.dom Tryd.underlying23

/-- The keys of a map, each once, in any order. -/
def KeysOf (f : Int → Option Value) (ss : List Int) : Prop := ss.Nodup ∧ ∀ x, x ∈ ss ↔ (f x).isSome = true

set_option maxRecDepth 100000 in
set_option maxHeartbeats 4000000 in
theorem keysS_any (mb : Option Nat) (w : World) : Calls Tryd.prog 50 #[.map mb] w fun e w' =>
    e = .returned (.func (.func 67) #[] #[.pointer (some ⟨w.heap.size, 0, none⟩)]) ∧ w' = w.alloc (.cells #[.map mb] 80) := by
  go_enter Tryd.func50, Tryd.ntmps50
  go_wp2
  go_ret
  exact ⟨rfl, rfl⟩

set_option maxRecDepth 100000 in
set_option maxHeartbeats 4000000 in
theorem keysF_any (mb : Option Nat) (w : World) : Calls Tryd.prog 55 #[.map mb] w fun e w' =>
    e = .returned (.func (.func 69) #[] #[.pointer (some ⟨w.heap.size, 0, none⟩)]) ∧ w' = w.alloc (.cells #[.map mb] 109) := by
  go_enter Tryd.func55, Tryd.ntmps55
  go_wp2
  go_ret
  exact ⟨rfl, rfl⟩

set_option maxRecDepth 100000 in
set_option maxHeartbeats 4000000 in
theorem collectS_any {f : Int → Option Value} {w : World} {b c : Nat} (h : MapAt w b f) (hc : w.cell? ⟨c, 0, none⟩ = some (.map (some b))) (hlt : c < w.heap.size) :
    Calls Tryd.prog 49 #[.func (.func 67) #[] #[.pointer (some ⟨c, 0, none⟩)]] w fun e W => ∃ v, e = .returned v ∧ Hid (∃ ss, KeysOf f ss ∧ RowU W w.heap.size v ss ∧ Below w.heap.size w W) := by
  obtain ⟨D0, hown, hsz, hss⟩ := h.owns
  have ap := Lib.hid (appendKeysS c b 65536 D0 _ w hlt hc hown (by omega))
  have hs := Lib.hid hss
  clear hown hsz hss hc h
  go_enter Tryd.func49, Tryd.ntmps49
  go_wp2_with (go_at_call 66; refine ap.out.mono ?_; rintro e W ⟨v, ss, rfl, h1, h2, h3, h4⟩; have FIN : Hid (∃ ss, KeysOf f ss ∧ RowU W w.heap.size v ss ∧ Below w.heap.size w W) := ⟨ss, ⟨h1.1, fun x => (h1.2 x).trans (hs.out x)⟩, h2, h4⟩; clear h1 h2 h3 h4)
  go_ret
  exact ⟨_, rfl, FIN⟩

set_option maxRecDepth 100000 in
set_option maxHeartbeats 4000000 in
theorem collectF_any {f : Int → Option Value} {w : World} {b c : Nat} (h : MapAt w b f) (hc : w.cell? ⟨c, 0, none⟩ = some (.map (some b))) (hlt : c < w.heap.size) :
    Calls Tryd.prog 49 #[.func (.func 69) #[] #[.pointer (some ⟨c, 0, none⟩)]] w fun e W => ∃ v, e = .returned v ∧ Hid (∃ ss, KeysOf f ss ∧ RowU W w.heap.size v ss ∧ Below w.heap.size w W) := by
  obtain ⟨D0, hown, hsz, hss⟩ := h.owns
  have ap := Lib.hid (appendKeysF c b 65536 D0 _ w hlt hc hown (by omega))
  have hs := Lib.hid hss
  clear hown hsz hss hc h
  go_enter Tryd.func49, Tryd.ntmps49
  go_wp2_with (go_at_call 66; refine ap.out.mono ?_; rintro e W ⟨v, ss, rfl, h1, h2, h3, h4⟩; have FIN : Hid (∃ ss, KeysOf f ss ∧ RowU W w.heap.size v ss ∧ Below w.heap.size w W) := ⟨ss, ⟨h1.1, fun x => (h1.2 x).trans (hs.out x)⟩, h2, h4⟩; clear h1 h2 h3 h4)
  go_ret
  exact ⟨_, rfl, FIN⟩
end Go.Proofs.YtabeljpnmmfpgaaDoor
