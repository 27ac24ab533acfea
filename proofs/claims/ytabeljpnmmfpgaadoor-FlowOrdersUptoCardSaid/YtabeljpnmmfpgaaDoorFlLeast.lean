/-
  The least address of a set, taken out; the keys of a set, or of a map of instructions, in order.
-/
import Derived.Lib.Hide
import Derived.Laws.Small
import Derived.Test.YtabeljpnmmfpgaaDoorFlSet
namespace Go.Proofs.YtabeljpnmmfpgaaDoor
open Go.RowKit Go.Maps Go.Sort Go.Shelf Go.MapKept Go.Proofs
set_option linter.unusedVariables false
set_option linter.unusedSimpArgs false

set_option maxRecDepth 100000 in
set_option maxHeartbeats 4000000 in
theorem min_any (w : World) (base : Nat) (v : Value) (ss : List Int) (h : RowU w base v ss) (hn : ss ≠ []) (hl : ss.length ≤ 1000000) :
    Calls Tryd.prog 48 #[v] w fun e w' => ∃ m, e = .returned (.int .u16 m) ∧ (m ∈ ss ∧ ∀ x ∈ ss, m ≤ x) ∧ w' = w := by
  rcases h.rw_ with ⟨_, rfl⟩ | ⟨g, c, rfl, hg, hR⟩
  · exact absurd rfl hn
  have hlen : 0 < ss.length := List.length_pos_iff.2 hn
  have hc : ∀ j, j < ss.length → w.cell? ⟨g, j, none⟩ = some (.int .u16 (ss.getD j 0)) := fun j hj => hR.cell hj
  have hmem : ∀ j, j < ss.length → ss.getD j 0 ∈ ss := fun j hj => by rw [List.getD_eq_getElem?_getD, List.getElem?_eq_getElem hj]; exact List.getElem_mem hj
  have HM := Lib.hid hmem
  have HC := Lib.hid hc
  obtain ⟨n, hnn⟩ : ∃ n, n = ss.length := ⟨_, rfl⟩
  have hfin : Hid (∀ m, m ∈ ss → (∀ j, j < n → m ≤ ss.getD j 0) → (m ∈ ss ∧ ∀ x ∈ ss, m ≤ x)) := fun m h1 h2 => ⟨h1, fun x hx => by
    obtain ⟨j, hj, rfl⟩ := List.mem_iff_getElem.1 hx
    have := h2 j (hnn ▸ hj)
    rwa [List.getD_eq_getElem?_getD, List.getElem?_eq_getElem hj] at this⟩
  rw [← hnn] at hlen hl ⊢
  replace HC : Hid (∀ j, j < n → w.cell? ⟨g, j, none⟩ = some (.int .u16 (ss.getD j 0))) := fun j hj => HC.out j (hnn ▸ hj)
  replace HM : Hid (∀ j, j < n → ss.getD j 0 ∈ ss) := fun j hj => HM.out j (hnn ▸ hj)
  clear h hR hnn hn hmem hc
  have c0 := HC.out 0 hlen
  have first0 : ∀ j, j < 1 → ss.getD 0 0 ≤ ss.getD j 0 := fun j hj => by
    obtain rfl : j = 0 := by omega
    exact Int.le_refl _
  have d1 : decide ((n : Int) < 1) = false := by simp; omega
  have b0 : (0 : Int) < (n : Int) := by omega
  go_enter Tryd.func48, Tryd.ntmps48
  go_wp2
  go_loopw [3, 4] (fun pm pi wr => ∃ (i : Nat) (m : Int), pm = .int .u16 m ∧ pi = .int .i64 (i : Int) ∧ 1 ≤ i ∧ i ≤ n ∧ Hid (m ∈ ss ∧ ∀ j, j < i → m ≤ ss.getD j 0) ∧ wr = w) (fun _ pi _ => n - (intOf pi).toNat)
  case atStart => exact ⟨1, _, rfl, rfl, Nat.le_refl _, hlen, ⟨HM.out 0 hlen, first0⟩, rfl⟩
  case round =>
    obtain ⟨i, m, rfl, rfl, h1, h2, hm, rfl⟩ := hrel
    by_cases hlt : i < n
    · have ci := HC.out i hlt
      have di : decide ((i : Int) < (n : Int)) = true := by simp; omega
      have bi0 : (0 : Int) ≤ (i : Int) := by omega
      have bi : (i : Int) < (n : Int) := by omega
      obtain ⟨x, hx⟩ : ∃ x, x = ss.getD i 0 := ⟨_, rfl⟩
      rw [← hx] at ci
      have nxt : Hid ((if x < m then x else m) ∈ ss ∧ ∀ j, j < i + 1 → (if x < m then x else m) ≤ ss.getD j 0) := by
        constructor
        · split
          · rw [hx]; exact HM.out i hlt
          · exact hm.out.1
        · intro j hj
          by_cases e : j = i
          · rw [e, ← hx]; split <;> omega
          · have := hm.out.2 j (by omega)
            split <;> omega
      clear hx
      go_wp2
      go_roundw
      case rel => exact ⟨i + 1, _, rfl, by go_num, by omega, by omega, nxt, by first | rfl | trivial⟩
      case measure => first | (simp [intOf]; done) | (simp [intOf]; omega)
    · obtain rfl : i = n := by omega
      have di : decide ((i : Int) < (i : Int)) = false := by simp
      go_wp2
      first | go_end0 | go_ret | refine bodyPost_ret (results_none rfl _ _ _) rfl ?_
      exact ⟨m, rfl, hfin.out m hm.out.1 hm.out.2, rfl⟩

/-! ### writing a map, taking out of it -/
theorem upd_map {w : World} {r : Nat} (es : Array MapEntry) (clk : Nat) : Upd w { w with heap := w.heap.setIfInBounds r (.map es clk) } (fun i => i = r) :=
  ⟨rfl, rfl, rfl, by simp, fun i hi hne => by
    show (w.heap.setIfInBounds r _)[i]? = _
    rw [Array.getElem?_setIfInBounds, if_neg (fun e => hne e.symm)]⟩

section
variable {P : Program} {w : World} {ops : Array Oper} {rest : List Oper} {o : Oper} {a : Act} {Q : Exit → Act → World → Prop}
theorem wpList_map_put (hg : o.guard = none) (m x v : Operand) (t : TypeId) (hop : o.op = Op.mapUpdate t m x v) (k e : TypeId) (ht : P.underlying t = some (.map k e)) (hk : P.underlying k = some (.int .u16))
    (r : Nat) (f : Int → Option Value) (hm : a.eval m = .map (some r)) (H : MapAt w r f) (n : Int) (hn : 0 ≤ n ∧ n < 65536) (val : Value) (hx : a.eval x = .int .u16 n) (hv : a.eval v = val)
    (hK : ∀ w', MapAt w' r (fun j => if j = n then some val else f j) → Upd w w' (fun i => i = r) → wpList P ops Q rest (a.put o.dst undef) w') :
    wpList P ops Q (o :: rest) a w := by
  refine wpList_plain hg fun K' hK' => ?_
  obtain ⟨es, clk, hb, hi⟩ := H.ex
  obtain ⟨es', clk', hrun, H', h1, h2⟩ := hi.put hb ht hk n val
  have hlt := heap_lt hb
  unfold Oper.wp
  simp [execOp, hop, hm, hx, hv, hrun, Result.andThen]
  exact hK' _ _ (hK _ ⟨⟨es', clk', by simp [hlt], H'⟩, fun j u hj => by
    split at hj
    · rename_i e; subst e; exact hn
    · exact H.dom j u hj⟩ (upd_map _ _))
theorem wpList_map_ins (hg : o.guard = none) (m x v : Operand) (t : TypeId) (hop : o.op = Op.insert t m x v) (k e : TypeId) (ht : P.underlying t = some (.map k e)) (hk : P.underlying k = some (.int .u16))
    (r : Nat) (f : Int → Option Value) (hm : a.eval m = .map (some r)) (H : MapAt w r f) (n : Int) (hn : 0 ≤ n ∧ n < 65536) (val : Value) (hx : a.eval x = .int .u16 n) (hv : a.eval v = val)
    (hK : ∀ w', MapAt w' r (fun j => if j = n then some val else f j) → Upd w w' (fun i => i = r) → wpList P ops Q rest (a.put o.dst undef) w') :
    wpList P ops Q (o :: rest) a w := by
  refine wpList_plain hg fun K' hK' => ?_
  obtain ⟨es, clk, hb, hi⟩ := H.ex
  obtain ⟨es', clk', hrun, H', h1, h2⟩ := hi.put hb ht hk n val
  have hlt := heap_lt hb
  unfold Oper.wp
  simp [execOp, hop, hm, hx, hv, hrun, Result.andThen]
  exact hK' _ _ (hK _ ⟨⟨es', clk', by simp [hlt], H'⟩, fun j u hj => by
    split at hj
    · rename_i e; subst e; exact hn
    · exact H.dom j u hj⟩ (upd_map _ _))
theorem wpList_map_del (hg : o.guard = none) (m x : Operand) (t k : TypeId) (hop : o.op = Op.call { callee := Callee.builtin Builtin.delete, args := #[m, x], argTypes := #[t, k] }) (e : TypeId) (ht : P.underlying t = some (.map k e)) (hk : P.underlying k = some (.int .u16))
    (r : Nat) (f : Int → Option Value) (hm : a.eval m = .map (some r)) (H : MapAt w r f) (n : Int) (hx : a.eval x = .int .u16 n)
    (hK : ∀ w', MapAt w' r (fun j => if j = n then none else f j) → Upd w w' (fun i => i = r) → wpList P ops Q rest (a.put o.dst (.tuple #[])) w') :
    wpList P ops Q (o :: rest) a w := by
  refine wpList_plain hg fun K' hK' => ?_
  obtain ⟨es, clk, hb, hi⟩ := H.ex
  obtain ⟨es', hrun, H', h1⟩ := hi.del (ty := o.type) hb ht hk n
  have hlt := heap_lt hb
  unfold Oper.wp
  simp [execOp, hop, resolve, invoke, builtin, hm, hx, hrun, Result.andThen]
  exact hK' _ _ (hK _ ⟨⟨es', clk, by simp [hlt], H'⟩, fun j u hj => by
    split at hj
    · cases hj
    · exact H.dom j u hj⟩ (upd_map _ _))
end

/-- How many keys a map has: none just where it has no key. -/
theorem MapAt.size {w : World} {r : Nat} {f : Int → Option Value} (h : MapAt w r f) : ∃ es clk, w.heap[r]? = some (.map es clk) ∧ es.size ≤ 65536 ∧ (es.size = 0 ↔ ∀ n, f n = none) := by
  obtain ⟨es, clk, hb, hi⟩ := h.ex
  refine ⟨es, clk, hb, imap_small (m := 65536) hi (fun n v hv => by have := h.dom n v hv; exact ⟨this.1, by simpa using this.2⟩), ?_⟩
  constructor
  · intro h0 n
    cases hf : f n with
    | none => rfl
    | some v =>
      obtain ⟨x, hx, _⟩ := (hi.rep n v).1 hf
      have : es.toList = [] := by simpa using h0
      rw [this] at hx; cases hx
  · intro h0
    rcases Nat.eq_zero_or_pos es.size with e | e
    · exact e
    · have hx : es[0] ∈ es.toList := by simp
      obtain ⟨n, hn⟩ := hi.keys _ hx
      have := (hi.rep n es[0].val).2 ⟨_, hx, hn, rfl⟩
      rw [h0 n] at this; cases this

theorem MapAt.look_some {P : Program} {w : World} {r : Nat} {f : Int → Option Value} (h : MapAt w r f) {t k e : TypeId} (ht : P.underlying t = some (.map k e)) (hk : P.underlying k = some (.int .u16)) {n : Int} {v : Value} (hf : f n = some v) (c : Bool) :
    (Instr.lookup t (.map (some r)) (.int .u16 n) c).run P w = .ok (if c then .tuple #[v, .bool true] else v) w := by
  obtain ⟨es, clk, hb, hi⟩ := h.ex
  exact hi.look_some hb ht hk hf c
theorem MapAt.look_none {P : Program} {w : World} {r : Nat} {f : Int → Option Value} (h : MapAt w r f) {t k e : TypeId} (ht : P.underlying t = some (.map k e)) (hk : P.underlying k = some (.int .u16)) {n : Int} {z : Value} (hz : (zeroValue e).run P w = .ok z w) (hf : f n = none) (c : Bool) :
    (Instr.lookup t (.map (some r)) (.int .u16 n) c).run P w = .ok (if c then .tuple #[z, .bool false] else z) w := by
  obtain ⟨es, clk, hb, hi⟩ := h.ex
  exact hi.look_none hb ht hk hz hf c

set_option maxRecDepth 100000 in
set_option maxHeartbeats 4000000 in
theorem least_any (w : World) (b : Nat) (x : Int) (S : List Int) (h : SetAt w b (x :: S)) (hx : ∀ y ∈ S, x < y) :
    Calls Tryd.prog 32 #[.map (some b)] w fun e w' => e = .returned (.int .u16 x) ∧ SetAt w' b S ∧ Upd w w' (fun i => i = b) := by
  have H := Lib.hid h
  have hlt : b < w.heap.size := MapAt.lt h
  have HD : Hid (∀ ss, KeysOf (setFn (x :: S)) ss → ss ≠ [] ∧ ss.length ≤ 1000000) := fun ss hs => by
    constructor
    · rintro rfl
      have := (hs.2 x).2 (setFn_some.2 List.mem_cons_self)
      cases this
    · have h2 := nodup_small 65536 (ss.map Int.toNat) (by
        refine List.pairwise_map.2 (hs.1.imp_of_mem fun {a c} ha hc hne e => hne ?_)
        have := h.dom a (setFn_some.1 ((hs.2 a).1 ha)); have := h.dom c (setFn_some.1 ((hs.2 c).1 hc)); omega) (by
        intro y hy
        obtain ⟨a, ha, rfl⟩ := List.mem_map.1 hy
        have := h.dom a (setFn_some.1 ((hs.2 a).1 ha)); omega)
      simp at h2; omega
  have HM : Hid (∀ ss m, KeysOf (setFn (x :: S)) ss → (m ∈ ss ∧ ∀ y ∈ ss, m ≤ y) → m = x) := fun ss m hs hm => by
    have h1 : m ∈ x :: S := setFn_some.1 ((hs.2 m).1 hm.1)
    have h2 := hm.2 x ((hs.2 x).2 (setFn_some.2 List.mem_cons_self))
    rcases List.mem_cons.1 h1 with h1 | h1
    · exact h1
    · have := hx m h1; omega
  have co : Hid (∀ W, W = w.alloc (.cells #[.map (some b)] 80) → Calls Tryd.prog 49 #[.func (.func 67) #[] #[.pointer (some ⟨w.heap.size, 0, none⟩)]] W fun e W' => ∃ v, e = .returned v ∧ Hid (∃ ss, KeysOf (setFn (x :: S)) ss ∧ RowU W' w.heap.size v ss ∧ Below w.heap.size w W')) := by
    rintro W rfl
    have hB : Below w.heap.size w (w.alloc (.cells #[.map (some b)] 80)) := (Below.refl _ _).alloc (Nat.le_refl _) _
    refine (collectS_any (MapAt.below H.out hB) (by rw [cell_of (heap_alloc_at w _)]; rfl) (by simp)).mono ?_
    rintro e W' ⟨v, rfl, ss, h1, h2, h3⟩
    have hs : w.heap.size ≤ (w.alloc (.cells #[.map (some b)] 80)).heap.size := by simp
    exact ⟨v, rfl, ss, h1, h2.lower hs, hB.trans ⟨h3.os, h3.tape, h3.output, h3.size, fun i hi => h3.block i (by omega)⟩⟩
  have HS : Hid (∀ W, MapAt W b (fun j => if j = x then none else setFn (x :: S) j) → SetAt W b S) := fun W hW => MapAt.ext hW (fun n => by
    unfold setFn
    by_cases e : n = x
    · rw [if_pos e, if_neg (fun hn => by have := hx n hn; omega)]
    · rw [if_neg e]; simp [e])
  clear h hx
  go_enter Tryd.func32, Tryd.ntmps32
  go_wp2_with (first
    | (go_at_call 50; refine (keysS_any _ _).mono ?_; rintro e W ⟨rfl, rfl⟩)
    | (go_at_call 49; refine (co.out _ rfl).mono ?_; rintro e W2 ⟨v, rfl, hk⟩)
    | (go_at_call 48; obtain ⟨ss, hk1, hk2, hk3⟩ := hk.out; refine (min_any _ _ _ _ hk2 (HD.out ss hk1).1 (HD.out ss hk1).2).mono ?_; rintro e W3 ⟨m, rfl, hm, rfl⟩; obtain rfl := HM.out ss m hk1 hm; have HB := Lib.hid hk3; clear hk1 hk2 hk3 hm hk)
    | (refine wpList_map_del rfl (.tmp 8) (.tmp 9) 80 23 rfl 4 Tryd.underlying80 Tryd.underlying23 b (setFn (_ :: S)) rfl (MapAt.below H.out HB.out) _ rfl ?_; intro w4 k1 k2; have HK := Lib.hid k1; have HU := Lib.hid k2; clear k1 k2))
  go_ret
  exact ⟨rfl, HS.out _ HK.out, (Upd.of_below HB.out _).trans HU.out (fun _ _ h => h)⟩
end Go.Proofs.YtabeljpnmmfpgaaDoor
