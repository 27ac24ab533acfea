/-
  Rows that are written over with marks, grown, and read again: what a law that asks whether lists lie apart does to them.
-/
import Derived.Test.YtabeljpnmmfpgaaDoorFlWhole
namespace Go.Proofs.YtabeljpnmmfpgaaDoor
open Go.RowKit Go.MapKept Go.Maps Go.Sort
set_option linter.unusedVariables false
set_option linter.unusedSimpArgs false

section
variable {P : Program} {w : World}
/-- An append to a row of the call's own: in its block, or in a new one with the old as it was. -/
theorem run_append_kept (base : Nat) (t ty e : TypeId) (i : TypeInfo) (z : Value) (size bytes : Nat) (ht : P.underlying t = some (.slice e)) (hi : P.info? e = some i) (hz : i.zero = some z)
    (hsize : i.size = size) (hby : i.bytes = bytes) (hzs : z.cells.size = size) (hsz : 0 < size)
    (v : Value) (n : Nat) (xs : List Value) (hown : w.ownsRow base e size v n xs)
    (a : Addr) (m c : Nat) (news : List Value) (hl : news.length = m * size) (hnews : ∀ j u, news[j]? = some u → w.cell? (a.add j) = some u) (h1 : ∀ u ∈ news, u.oneCell' = true)
    (hm : 0 < m) (h63 : n + m ≤ maxLen) (hbytes : (n + m) * bytes ≤ 140737488355328) (hbase : base ≤ w.heap.size) :
    ∃ g cap w', (Builtin.append_ #[t, t] ty #[v, .slice (some a) m c]).run P w = .ok (.slice (some ⟨g, 0, none⟩) (n + m) cap) w' ∧ w'.ownsRow base e size (.slice (some ⟨g, 0, none⟩) (n + m) cap) (n + m) (xs ++ news) ∧ w.grownBy w' v.ownBlock ∧
      (v.ownBlock = some g ∨ (g = w.heap.size ∧ ∀ k, k < w.heap.size → w'.heap[k]? = w.heap[k]?)) := by
  obtain ⟨v', w', hr, h2, h3, h4, h5⟩ := run_append_own_at (P := P) w base t ty e i z size bytes ht hi hz hsize hby hzs hsz v n xs hown a m c news hl hnews h1 h63 hbytes hbase
  obtain ⟨g', cap', e', hg', hlt'⟩ := h2.form (by omega)
  subst e'
  refine ⟨g', cap', w', hr, h2, h3, ?_⟩
  subst hsize
  have hsmall : n + m ≤ 9223372036854775807 := by simp only [maxLen] at h63; omega
  rcases hown.2 with ⟨rfl, rfl⟩ | ⟨g, cap, cur, rfl, hbg, hg, hnc, hcm, hcs, htake⟩
  · have hx : xs = [] := List.eq_nil_of_length_eq_zero (by simpa using hown.1)
    subst hx
    subst hby
    have hr2 := run_append_nil (P := P) w t ty e i z ht hi hz a m c news hl hnews hm (by omega) (by have hb := hbytes; simp only [Nat.zero_add] at hb; omega)
    rw [hr] at hr2
    injection hr2 with e1 e2
    injection e1 with e3 _ _
    have e4 : g' = w.heap.size := by injection e3 with e3; injection e3
    refine .inr ⟨e4, fun k hk => ?_⟩
    rw [e2]
    exact Below.heap_alloc w.drew _ k hk
  · by_cases hroom : n + m ≤ cap
    · have hfit : n * i.size + news.length ≤ cur.size := by rw [hl, hcs, ← Nat.add_mul]; exact Nat.mul_le_mul_right _ hroom
      have hr2 := run_append_room (P := P) w t ty e i ht hi g n cap cur hg a m c news hl hnews h1 hroom hfit
      rw [hr] at hr2
      injection hr2 with e1 e2
      injection e1 with e3 _ _
      have e4 : g' = g := by injection e3 with e3; injection e3
      exact .inl (by rw [e4]; rfl)
    · have holds : ∀ j u, xs[j]? = some u → w.cell? ((⟨g, 0, none⟩ : Addr).add j) = some u := hown.cells (g := g) rfl
      subst hby
      have hr2 := run_append_grow (P := P) w t ty e i z ht hi hz ⟨g, 0, none⟩ n cap xs hown.1 holds a m c news hl hnews (by omega) (by omega) (growslice_fits (by omega) hbytes)
      rw [hr] at hr2
      injection hr2 with e1 e2
      injection e1 with e3 _ _
      have e4 : g' = w.heap.size := by injection e3 with e3; injection e3
      refine .inr ⟨e4, fun k hk => ?_⟩
      rw [e2]
      exact Below.heap_alloc w.drew _ k hk
theorem wpList_append_kept {ops : Array Oper} {rest : List Oper} {o : Oper} {a : Act} {Q : Exit → Act → World → Prop} (hgd : o.guard = none) (s x : Operand) (t : TypeId)
    (ho : o.op = .call { callee := .builtin .append, args := #[s, x], argTypes := #[t, t] })
    (base : Nat) (e : TypeId) (i : TypeInfo) (z : Value) (size bytes : Nat) (ht : P.underlying t = some (.slice e)) (hi : P.info? e = some i) (hz : i.zero = some z)
    (hsize : i.size = size) (hby : i.bytes = bytes) (hzs : z.cells.size = size) (hsz : 0 < size)
    (v : Value) (n : Nat) (xs : List Value) (hs : a.eval s = v) (hown : w.ownsRow base e size v n xs)
    (ad : Addr) (m c : Nat) (news : List Value) (hx : a.eval x = .slice (some ad) m c) (hl : news.length = m * size) (hnews : ∀ j u, news[j]? = some u → w.cell? (ad.add j) = some u) (h1 : ∀ u ∈ news, u.oneCell' = true)
    (hm : 0 < m) (h63 : n + m ≤ maxLen) (hbytes : (n + m) * bytes ≤ 140737488355328) (hbase : base ≤ w.heap.size)
    (h : ∀ g cap w', w'.ownsRow base e size (.slice (some ⟨g, 0, none⟩) (n + m) cap) (n + m) (xs ++ news) → w.grownBy w' v.ownBlock → (v.ownBlock = some g ∨ (g = w.heap.size ∧ ∀ k, k < w.heap.size → w'.heap[k]? = w.heap[k]?)) → wpList P ops Q rest (a.put o.dst (.slice (some ⟨g, 0, none⟩) (n + m) cap)) w') :
    wpList P ops Q (o :: rest) a w := by
  refine wpList_plain hgd fun K hK => ?_
  obtain ⟨g, cap, w', hr, h2, h3, h4⟩ := run_append_kept (P := P) base t o.type e i z size bytes ht hi hz hsize hby hzs hsz v n xs hown ad m c news hl hnews h1 hm h63 hbytes hbase
  unfold Oper.wp execOp
  simp only [ho, resolve, invoke, builtin, Sem.run_bind, Sem.run_pure, Result.andThen_ok, List.map_toArray, List.map_cons, List.map_nil, hs, hx, hr]
  exact hK _ _ (h g cap w' h2 h3 h4)
end
def bks (vs : List Value) : List Nat := vs.flatMap fun v => v.ownBlock.toList
theorem mem_bks {vs : List Value} {i g : Nat} (hi : i < vs.length) (h : (vs[i]).ownBlock = some g) : g ∈ bks vs := List.mem_flatMap.2 ⟨_, List.getElem_mem hi, by simp [h]⟩
theorem bks_ne : ∀ {vs : List Value} (_ : (bks vs).Nodup) {i j g : Nat} (hi : i < vs.length) (hj : j < vs.length), i ≠ j → (vs[i]).ownBlock = some g → (vs[j]).ownBlock ≠ some g
  | v :: vs, nd, i, j, g, hi, hj, hne, h => by
    have nd' : (v.ownBlock.toList ++ bks vs).Nodup := nd
    obtain ⟨_, n2, n3⟩ := List.nodup_append.1 nd'
    cases i with
    | zero =>
      cases j with
      | zero => exact absurd rfl hne
      | succ j => exact fun h2 => n3 g (by have : v.ownBlock = some g := h; simp [this]) g (mem_bks (vs := vs) (by simpa using hj) h2) rfl
    | succ i =>
      cases j with
      | zero => exact fun h2 => n3 g (by have : v.ownBlock = some g := h2; simp [this]) g (mem_bks (vs := vs) (by simpa using hi) h) rfl
      | succ j => exact bks_ne n2 (by simpa using hi) (by simpa using hj) (by omega) h

/-- A row of the call's own whose first T cells are marks. -/
structure Mkd (sh : Nat → Value → Prop) (W : World) (base : Nat) (e : TypeId) (s : Nat) (v : Value) (m : List Value) (T : Nat) : Prop where
  ex : ∃ xs, W.ownsRow base e s v (vlen v) xs ∧ (∀ t u, xs[t]? = some u → sh (t % s) u) ∧ ∀ t, t < T → xs[t]? = m[t % s]?
  small : vlen v ≤ 1000000
  le : T ≤ vlen v * s
section
variable {sh : Nat → Value → Prop} {w W : World} {base : Nat} {e : TypeId} {s : Nat} {v : Value} {m : List Value} {T : Nat}
theorem Mkd.slice (h : Mkd sh w base e s v m T) : ∃ A c, v = .slice A (vlen v) c := by
  obtain ⟨xs, h1, _⟩ := h.ex
  exact ownsRow_slice h1
theorem Mkd.own (h : Mkd sh w base e s v m T) (k : Nat) (hk : v.ownBlock = some k) : k < w.heap.size ∧ base ≤ k := by
  obtain ⟨xs, h1, _⟩ := h.ex
  exact ownsRow_own h1 k hk
theorem Mkd.move (h : Mkd sh w base e s v m T) (hm : ∀ k, v.ownBlock = some k → W.heap[k]? = w.heap[k]?) : Mkd sh W base e s v m T := by
  obtain ⟨xs, h1, h2, h3⟩ := h.ex
  exact ⟨⟨xs, ownsRow_keep h1 hm, h2, h3⟩, h.small, h.le⟩
theorem Mkd.upd {S : Nat → Prop} (h : Mkd sh w base e s v m T) (hu : Upd w W S) (hs : ∀ k, v.ownBlock = some k → ¬ S k) : Mkd sh W base e s v m T :=
  h.move (fun k hk => hu.block k (h.own k hk).1 (hs k hk))
theorem Mkd.cell (h : Mkd sh w base e s v m T) {t : Nat} (ht : t < vlen v * s) :
    ∃ g c u, v = .slice (some ⟨g, 0, none⟩) (vlen v) c ∧ w.cell? ⟨g, t, none⟩ = some u ∧ w.frozen? ⟨g, t, none⟩ = false ∧ sh (t % s) u ∧ (t < T → m[t % s]? = some u) := by
  obtain ⟨xs, h1, h2, h3⟩ := h.ex
  have hl : xs.length = vlen v * s := h1.1
  rcases h1.2 with ⟨e1, e2⟩ | ⟨g, cap, cur, e1, _, hh, _⟩
  · rw [e2, Nat.zero_mul] at ht; omega
  · have hx : xs[t]? = some (xs[t]'(by omega)) := List.getElem?_eq_getElem _
    have hc := h1.cells (g := g) (by rw [e1]; rfl) t _ hx
    rw [add0] at hc
    refine ⟨g, cap, _, e1, hc, free_of hh _, h2 t _ hx, fun htT => ?_⟩
    rw [← h3 t htT, hx]
theorem Mkd.form (h : Mkd sh w base e s v m T) (hn : 0 < vlen v * s) : ∃ g c, v = .slice (some ⟨g, 0, none⟩) (vlen v) c := by
  obtain ⟨g, c, u, e1, _⟩ := h.cell hn
  exact ⟨g, c, e1⟩
theorem Mkd.cellAt {g n c : Nat} (h : Mkd sh w base e s v m T) (hv : v = .slice (some ⟨g, 0, none⟩) n c) {t q : Nat} (ht : t < n * s) (hq : t % s = q) : ∃ u, w.cell? ⟨g, t, none⟩ = some u ∧ w.frozen? ⟨g, t, none⟩ = false ∧ sh q u := by
  obtain ⟨g', c', u, e1, e2, e3, e4, _⟩ := h.cell (t := t) (by rw [hv]; exact ht)
  rw [hv] at e1
  injection e1 with e5 _ _
  injection e5 with e5
  injection e5 with e5
  subst e5 hq
  exact ⟨u, e2, e3, e4⟩
theorem own_set {g n c i : Nat} {xs : List Value} {u : Value} (h : w.ownsRow base e s (.slice (some ⟨g, 0, none⟩) n c) n xs) (hi : i < n * s) : (w.setCell ⟨g, i, none⟩ u).ownsRow base e s (.slice (some ⟨g, 0, none⟩) n c) n (xs.set i u) := by
  obtain ⟨h1, h2⟩ := h
  refine ⟨by rw [List.length_set]; exact h1, .inr ?_⟩
  rcases h2 with ⟨e, _⟩ | ⟨g', cap, cur, e, hg, hh, k1, k2, k3, k4⟩
  · cases e
  · cases e
    refine ⟨g, c, cur.setIfInBounds i u, rfl, hg, heap_set_cell hh _ _, k1, k2, by simpa using k3, ?_⟩
    rw [← k4, Array.toList_setIfInBounds, List.take_set]
theorem Mkd.set {g n c : Nat} {u : Value} (h : Mkd sh w base e s v m T) (hv : v = .slice (some ⟨g, 0, none⟩) n c) (hT : T < n * s) (hu : m[T % s]? = some u) (hs : sh (T % s) u) : Mkd sh (w.setCell ⟨g, T, none⟩ u) base e s v m (T + 1) := by
  obtain ⟨xs, h1, h2, h3⟩ := h.ex
  subst hv
  have hl : xs.length = n * s := h1.1
  refine ⟨⟨xs.set T u, own_set h1 hT, fun t x ht => ?_, fun t ht => ?_⟩, h.small, hT⟩
  · by_cases e : t = T
    · subst e
      rw [List.getElem?_set_self (by omega)] at ht
      cases ht; exact hs
    · rw [List.getElem?_set_ne (by omega)] at ht
      exact h2 t x ht
  · by_cases e : t = T
    · subst e
      rw [List.getElem?_set_self (by omega), hu]
    · rw [List.getElem?_set_ne (by omega)]
      exact h3 t (by omega)
theorem Mkd.zero (h : Mkd sh w base e s v m T) (m' : List Value) : Mkd sh w base e s v m' 0 := by
  obtain ⟨xs, h1, h2, _⟩ := h.ex
  exact ⟨⟨xs, h1, h2, fun t ht => by omega⟩, h.small, Nat.zero_le _⟩
/-- A row that reads as marks alone. -/
structure Rdm (W : World) (s : Nat) (v : Value) (m : List Value) : Prop where
  isl : ∃ A c, v = .slice A (vlen v) c
  own : ∀ k, v.ownBlock = some k → k < W.heap.size
  rd : ∀ t, t < vlen v * s → ∃ g c u, v = .slice (some ⟨g, 0, none⟩) (vlen v) c ∧ W.cell? ⟨g, t, none⟩ = some u ∧ m[t % s]? = some u
theorem Mkd.rdm (h : Mkd sh w base e s v m T) (hT : T = vlen v * s) : Rdm w s v m := by
  refine ⟨h.slice, fun k hk => (h.own k hk).1, fun t ht => ?_⟩
  obtain ⟨g, c, u, e1, e2, _, _, e3⟩ := h.cell ht
  exact ⟨g, c, u, e1, e2, e3 (by omega)⟩
theorem Rdm.move (h : Rdm w s v m) (hs : w.heap.size ≤ W.heap.size) (hm : ∀ k, v.ownBlock = some k → W.heap[k]? = w.heap[k]?) : Rdm W s v m := by
  refine ⟨h.isl, fun k hk => Nat.lt_of_lt_of_le (h.own k hk) hs, fun t ht => ?_⟩
  obtain ⟨g, c, u, e1, e2, e3⟩ := h.rd t ht
  refine ⟨g, c, u, e1, ?_, e3⟩
  rw [← e2]
  unfold World.cell?
  rw [hm g (by rw [e1]; rfl)]
theorem Rdm.at_ {t q : Nat} {u : Value} (h : Rdm w s v m) (ht : t < vlen v * s) (hq : t % s = q) (hu : m[q]? = some u) : ∃ g c, v = .slice (some ⟨g, 0, none⟩) (vlen v) c ∧ w.cell? ⟨g, t, none⟩ = some u := by
  obtain ⟨g, c, u', e1, e2, e3⟩ := h.rd t ht
  rw [hq, hu] at e3
  exact ⟨g, c, e1, by rw [e2, e3]⟩
theorem Rdm.upd {S : Nat → Prop} (h : Rdm w s v m) (hu : Upd w W S) (hs : ∀ k, v.ownBlock = some k → ¬ S k) : Rdm W s v m :=
  h.move hu.size (fun k hk => hu.block k (h.own k hk) (hs k hk))
end

/-- Written over: rows ahead of i are marks, rows from r on are any. -/
structure PA (sh : Nat → Value → Prop) (M : Nat → List Value) (W0 W : World) (base : Nat) (e : TypeId) (s : Nat) (vs : List Value) (i r : Nat) : Prop where
  upd : Upd W0 W (fun b => b ∈ bks vs)
  done : ∀ (j : Nat) (hj : j < vs.length), j < i → Mkd sh W base e s vs[j] (M j) (vlen vs[j] * s)
  todo : ∀ (j : Nat) (hj : j < vs.length), r ≤ j → Mkd sh W base e s vs[j] (M j) 0
section
variable {sh : Nat → Value → Prop} {M : Nat → List Value} {W0 W : World} {base : Nat} {e : TypeId} {s : Nat} {vs : List Value} {i r : Nat}
theorem PA.start (h : ∀ (j : Nat) (hj : j < vs.length), Mkd sh W base e s vs[j] (M j) 0) : PA sh M W W base e s vs 0 0 := ⟨Upd.refl _ _, fun j hj h0 => absurd h0 (Nat.not_lt_zero _), fun j hj _ => h j hj⟩
theorem PA.enter (h : PA sh M W0 W base e s vs i i) (hi : i < vs.length) : PA sh M W0 W base e s vs i (i + 1) ∧ Mkd sh W base e s vs[i] (M i) 0 := ⟨⟨h.upd, h.done, fun j hj hr => h.todo j hj (by omega)⟩, h.todo i hi (Nat.le_refl _)⟩
theorem PA.set {g n c t : Nat} {u : Value} (h : PA sh M W0 W base e s vs i (i + 1)) (nd : (bks vs).Nodup) (hi : i < vs.length) (hv : vs[i] = .slice (some ⟨g, 0, none⟩) n c) : PA sh M W0 (W.setCell ⟨g, t, none⟩ u) base e s vs i (i + 1) := by
  have hb : (vs[i]).ownBlock = some g := by rw [hv]; rfl
  have key : ∀ (j : Nat) (hj : j < vs.length), j ≠ i → ∀ k, (vs[j]).ownBlock = some k → (W.setCell ⟨g, t, none⟩ u).heap[k]? = W.heap[k]? := fun j hj hne k hk =>
    heap_set_far (fun e => bks_ne nd hj hi hne hk (by rw [hb, e]))
  exact ⟨h.upd.setCell (fun _ => mem_bks hi hb) _, fun j hj hlt => (h.done j hj hlt).move (key j hj (by omega)), fun j hj hr => (h.todo j hj hr).move (key j hj (by omega))⟩
theorem PA.leave (h : PA sh M W0 W base e s vs i (i + 1)) {T : Nat} (hi : i < vs.length) (hf : Mkd sh W base e s vs[i] (M i) T) (hT : T = vlen vs[i] * s) : PA sh M W0 W base e s vs (i + 1) (i + 1) :=
  ⟨h.upd, fun j hj hlt => by
    by_cases e : j = i
    · subst e; rw [← hT]; exact hf
    · exact h.done j hj (by omega), h.todo⟩
end

/-- Grown: the rows ahead are told in x, grown by some marks; the rows from r on are marks. -/
structure PB (sh : Nat → Value → Prop) (M : Nat → List Value) (W0 W : World) (base : Nat) (e : TypeId) (s : Nat) (ex : TypeId) (add : Nat) (vs ys : List Value) (x : Value) (r : Nat) : Prop where
  upd : Upd W0 W (fun b => b ∈ bks vs)
  xrow : W.ownsRow W0.heap.size ex 1 x ys.length ys
  len : ys.length ≤ vs.length
  done : ∀ (j : Nat) (h1 : j < ys.length) (h2 : j < vs.length), Rdm W s vs[j] (M j) ∧ Rdm W s ys[j] (M j) ∧ vlen ys[j] = vlen vs[j] + add ∧ vlen vs[j] ≤ 1000000
  yb : ∀ (j : Nat) (h1 : j < ys.length) (h2 : j < vs.length) (g : Nat), (ys[j]).ownBlock = some g → (vs[j]).ownBlock = some g ∨ (W0.heap.size ≤ g ∧ x.ownBlock ≠ some g)
  todo : ∀ (j : Nat) (hj : j < vs.length), r ≤ j → Mkd sh W base e s vs[j] (M j) (vlen vs[j] * s)
/-- A row while it grows. -/
structure PG (sh : Nat → Value → Prop) (W0 W : World) (base : Nat) (e : TypeId) (s : Nat) (m : List Value) (vs ys : List Value) (x v y : Value) (k : Nat) : Prop where
  old : Rdm W s v m
  new : ∃ xs, W.ownsRow base e s y (vlen y) xs ∧ (∀ t, t < vlen y * s → xs[t]? = m[t % s]?)
  len : vlen y = vlen v + k
  yb : ∀ g, y.ownBlock = some g → v.ownBlock = some g ∨ (W0.heap.size ≤ g ∧ x.ownBlock ≠ some g ∧ g ∉ bks ys)
section
variable {sh : Nat → Value → Prop} {M : Nat → List Value} {W0 W W1 W2 : World} {base : Nat} {e : TypeId} {s : Nat} {ex : TypeId} {add : Nat} {vs ys : List Value} {x y : Value} {r k : Nat} {m : List Value}
theorem PB.start (h : ∀ (j : Nat) (hj : j < vs.length), Mkd sh W base e s vs[j] (M j) (vlen vs[j] * s)) : PB sh M W W base e s ex add vs [] (.slice none 0 0) 0 :=
  ⟨Upd.refl _ _, World.ownsRow_nil _ _ _ _, Nat.zero_le _, fun j h1 => by simp at h1, fun j h1 => by simp at h1, fun j hj _ => h j hj⟩
theorem PB.enter (h : PB sh M W0 W base e s ex add vs ys x ys.length) (hi : ys.length < vs.length) : PB sh M W0 W base e s ex add vs ys x (ys.length + 1) ∧ PG sh W0 W base e s (M ys.length) vs ys x vs[ys.length] vs[ys.length] 0 := by
  have q := h.todo ys.length hi (Nat.le_refl _)
  refine ⟨⟨h.upd, h.xrow, h.len, h.done, h.yb, fun j hj hr => h.todo j hj (by omega)⟩, q.rdm rfl, ?_, rfl, fun g hg => .inl hg⟩
  obtain ⟨xs, h1, _, h3⟩ := q.ex
  exact ⟨xs, h1, h3⟩
/-- Nothing of the others is touched when the row at hand changes. -/
theorem PB.other (h : PB sh M W0 W base e s ex add vs ys x (ys.length + 1)) (nd : (bks vs).Nodup) (hl : ∀ b ∈ bks vs, b < W0.heap.size) (hi : ys.length < vs.length) (hb : Below W.heap.size W W1)
    (hu : Upd W1 W2 (fun k => some k = y.ownBlock)) (hy : ∀ g, y.ownBlock = some g → (vs[ys.length]).ownBlock = some g ∨ (W0.heap.size ≤ g ∧ x.ownBlock ≠ some g ∧ g ∉ bks ys)) :
    PB sh M W0 W2 base e s ex add vs ys x (ys.length + 1) := by
  have h12 := hb.size
  have h23 := hu.size
  have hs0 := h.upd.size
  have up2 : ∀ b, b < W.heap.size → y.ownBlock ≠ some b → W2.heap[b]? = W.heap[b]? := fun b hb1 hn => (hu.block b (by omega) (fun e => hn e.symm)).trans (hb.block b hb1)
  have xb : ∀ g, x.ownBlock = some g → W0.heap.size ≤ g ∧ g < W.heap.size := fun g hg => by have := ownsRow_own h.xrow g hg; exact ⟨this.2, this.1⟩
  have kx : ∀ g, x.ownBlock = some g → y.ownBlock ≠ some g := fun g hg e => by
    rcases hy g e with e2 | ⟨_, e2, _⟩
    · have := hl g (mem_bks hi e2); have := (xb g hg).1; omega
    · exact e2 hg
  have kv : ∀ (j : Nat) (hj : j < vs.length), j ≠ ys.length → ∀ g, (vs[j]).ownBlock = some g → y.ownBlock ≠ some g := fun j hj hne g hg e => by
    rcases hy g e with e2 | ⟨e2, _⟩
    · exact bks_ne nd hj hi hne hg e2
    · have := hl g (mem_bks hj hg); omega
  refine ⟨?_, ownsRow_keep h.xrow (fun g hg => up2 g (xb g hg).2 (kx g hg)), h.len, fun j h1 h2 => ?_, h.yb, fun j hj hr => ?_⟩
  · refine ⟨hu.os.trans (hb.os.trans h.upd.os), hu.tape.trans (hb.tape.trans h.upd.tape), hu.output.trans (hb.output.trans h.upd.output), by omega, fun b hb1 hn => ?_⟩
    refine (up2 b (by omega) (fun e => ?_)).trans (h.upd.block b hb1 hn)
    rcases hy b e with e2 | ⟨e2, _⟩
    · exact hn (mem_bks hi e2)
    · omega
  · obtain ⟨d1, d2, d3⟩ := h.done j h1 h2
    refine ⟨d1.move (by omega) (fun g hg => up2 g (d1.own g hg) (kv j h2 (by omega) g hg)), d2.move (by omega) (fun g hg => up2 g (d2.own g hg) (fun e => ?_)), d3⟩
    rcases h.yb j h1 h2 g hg with e2 | ⟨e2, e3⟩
    · exact kv j h2 (by omega) g e2 e
    · rcases hy g e with e4 | ⟨_, _, e4⟩
      · have := hl g (mem_bks hi e4); omega
      · exact e4 (mem_bks h1 hg)
  · have q := h.todo j hj hr
    exact q.move (fun g hg => up2 g (q.own g hg).1 (kv j hj (by omega) g hg))
theorem PB.ysb (h : PB sh M W0 W base e s ex add vs ys x r) : ∀ b ∈ bks ys, b < W.heap.size := fun b hb => by
  obtain ⟨y, hy, hb2⟩ := List.mem_flatMap.1 hb
  obtain ⟨j, hj, rfl⟩ := List.getElem_of_mem hy
  exact (h.done j hj (Nat.lt_of_lt_of_le hj h.len)).2.1.own b (by simpa using hb2)
/-- One mark more. -/
theorem PG.app {g4 cap4 n : Nat} {v : Value} {ob : Obj} {xs : List Value} (h : PG sh W0 W base e s m vs ys x v y k) (hn : n = vlen y) (hs : 0 < s) (hm : m.length = s) (hxl : ∀ b ∈ bks ys, b < W.heap.size) (hxo : ∀ b, x.ownBlock = some b → b < W.heap.size) (h0 : W0.heap.size ≤ W.heap.size)
    (hx : W.ownsRow base e s y (vlen y) xs ∧ (∀ t, t < vlen y * s → xs[t]? = m[t % s]?))
    (ho : W2.ownsRow base e s (.slice (some ⟨g4, 0, none⟩) (n + 1) cap4) (n + 1) (xs ++ m)) (hg : (W.alloc ob).grownBy W2 y.ownBlock)
    (hat : y.ownBlock = some g4 ∨ (g4 = (W.alloc ob).heap.size ∧ ∀ k, k < (W.alloc ob).heap.size → W2.heap[k]? = (W.alloc ob).heap[k]?)) :
    PG sh W0 W2 base e s m vs ys x v (.slice (some ⟨g4, 0, none⟩) (n + 1) cap4) (k + 1) := by
  have hu := Upd.of_grown hg
  have hl : xs.length = n * s := by rw [hn]; exact hx.1.1
  have mk : ∀ t, t < (n + 1) * s → (xs ++ m)[t]? = m[t % s]? := fun t ht => by
    by_cases h1 : t < n * s
    · rw [List.getElem?_append_left (by omega)]
      exact hx.2 t (by rw [← hn]; exact h1)
    · rw [List.getElem?_append_right (by omega), hl]
      have e1 : (n + 1) * s = n * s + s := Nat.succ_mul n s
      have e2 : t = s * n + (t - n * s) := by rw [Nat.mul_comm s n]; omega
      have e3 : t % s = t - n * s := by
        have : (s * n + (t - n * s)) % s = (t - n * s) % s := Nat.mul_add_mod s n (t - n * s)
        rw [← e2, Nat.mod_eq_of_lt (a := t - n * s) (by omega)] at this
        exact this
      rw [e3]
  refine ⟨?_, ⟨xs ++ m, ho, mk⟩, by show n + 1 = _; rw [hn, h.len]; omega, fun g hg2 => ?_⟩
  · refine ⟨h.old.isl, fun g hg2 => ?_, fun t ht => ?_⟩
    · have := h.old.own g hg2; have := hu.size; simp at this; omega
    · obtain ⟨g, c, u, e1, e2, e3⟩ := h.old.rd t ht
      refine ⟨g, c, u, e1, ?_, e3⟩
      have hgb : v.ownBlock = some g := by rw [e1]; rfl
      by_cases hy : y.ownBlock = some g
      · rcases hat with hat | hat
        · have eg : g4 = g := by
            rw [hy] at hat
            exact (Option.some.inj hat).symm
          have htl : t < (n + 1) * s := by
            have h5 := h.len
            have h6 : vlen v ≤ n + 1 := by omega
            exact Nat.lt_of_lt_of_le ht (Nat.mul_le_mul_right s h6)
          have := ho.cells (g := g4) rfl t u (by rw [mk t htl]; exact e3)
          rwa [add0, eg] at this
        · have hold := h.old.own g hgb
          rw [← e2]
          unfold World.cell?
          rw [(hat.2 g (by simp; omega)).trans (Below.heap_alloc _ _ _ hold)]
      · have hold := h.old.own g hgb
        rw [← e2]
        unfold World.cell?
        rw [(hu.block g (by simp; omega) (fun e => hy e.symm)).trans (Below.heap_alloc _ _ _ hold)]
  · have e : g4 = g := by
      have hg3 : some g4 = some g := hg2
      exact Option.some.inj hg3
    subst e
    rcases hat with hat | hat
    · exact h.yb g4 hat
    · have e2 : g4 = (W.alloc ob).heap.size := hat.1
      refine .inr ⟨by simp at e2; omega, fun e3 => by have := hxo _ e3; simp at e2; omega, fun e3 => by have := hxl _ e3; simp at e2; omega⟩
/-- The grown row told in x. -/
theorem PB.push {g4 cap4 : Nat} {ob : Obj} (h : PB sh M W0 W base e s ex add vs ys x (ys.length + 1)) (hi : ys.length < vs.length) (hg : PG sh W0 W base e s (M ys.length) vs ys x vs[ys.length] y add) (hsm : vlen vs[ys.length] ≤ 1000000)
    (hl : ∀ b ∈ bks vs, b < W0.heap.size)
    (ho : W2.ownsRow W0.heap.size ex 1 (.slice (some ⟨g4, 0, none⟩) (ys.length + 1) cap4) (ys.length + 1) (ys ++ [y])) (hgr : (W.alloc ob).grownBy W2 x.ownBlock)
    (hat : x.ownBlock = some g4 ∨ (g4 = (W.alloc ob).heap.size ∧ ∀ k, k < (W.alloc ob).heap.size → W2.heap[k]? = (W.alloc ob).heap[k]?)) :
    PB sh M W0 W2 base e s ex add vs (ys ++ [y]) (.slice (some ⟨g4, 0, none⟩) (ys.length + 1) cap4) (ys.length + 1) := by
  have hu := Upd.of_grown hgr
  have hs0 := h.upd.size
  have h23 := hu.size
  have hz : (W.alloc ob).heap.size = W.heap.size + 1 := by simp
  have xb : ∀ g, x.ownBlock = some g → W0.heap.size ≤ g ∧ g < W.heap.size := fun g hg => by have := ownsRow_own h.xrow g hg; exact ⟨this.2, this.1⟩
  have up2 : ∀ b, b < W.heap.size → x.ownBlock ≠ some b → W2.heap[b]? = W.heap[b]? := fun b hb1 hn => (hu.block b (by omega) (fun e => hn e.symm)).trans (Below.heap_alloc _ _ _ hb1)
  have kv : ∀ (j : Nat) (hj : j < vs.length) g, (vs[j]).ownBlock = some g → x.ownBlock ≠ some g := fun j hj g hg e => by
    have := hl g (mem_bks hj hg); have := (xb g e).1; omega
  have ny : Rdm W s y (M ys.length) := by
    obtain ⟨xs, h1, h2⟩ := hg.new
    refine ⟨ownsRow_slice h1, fun k hk => (ownsRow_own h1 k hk).1, fun t ht => ?_⟩
    rcases h1.2 with ⟨e1, e2⟩ | ⟨g, cap, cur, e1, _, hh, _⟩
    · rw [e2, Nat.zero_mul] at ht; omega
    · have hxl : xs.length = vlen y * s := h1.1
      have hx : xs[t]? = some (xs[t]'(by omega)) := List.getElem?_eq_getElem _
      have hc := h1.cells (g := g) (by rw [e1]; rfl) t _ hx
      rw [add0] at hc
      exact ⟨g, cap, _, e1, hc, by rw [← h2 t ht, hx]⟩
  have ybk : ∀ g, y.ownBlock = some g → x.ownBlock ≠ some g := fun g hg2 => by
    rcases hg.yb g hg2 with e1 | ⟨_, e1, _⟩
    · exact kv _ hi g e1
    · exact e1
  have g4b : ∀ g, g < W.heap.size → x.ownBlock ≠ some g → (Value.slice (some ⟨g4, 0, none⟩) (ys.length + 1) cap4).ownBlock ≠ some g := fun g hb1 hn e => by
    have e1 : g4 = g := by
      have e2 : some g4 = some g := e
      exact Option.some.inj e2
    subst e1
    rcases hat with hat | hat
    · exact hn hat
    · have := hat.1; omega
  refine ⟨?_, by rw [List.length_append]; exact ho, by simp; omega, fun j h1 h2 => ?_, fun j h1 h2 g hg2 => ?_, fun j hj hr => ?_⟩
  · refine ⟨hu.os.trans h.upd.os, hu.tape.trans h.upd.tape, hu.output.trans h.upd.output, by omega, fun b hb1 hn => ?_⟩
    exact (up2 b (by omega) (fun e => by have := (xb b e).1; omega)).trans (h.upd.block b hb1 hn)
  · by_cases hj : j < ys.length
    · obtain ⟨d1, d2, d3⟩ := h.done j hj h2
      rw [List.getElem_append_left hj]
      refine ⟨d1.move (by omega) (fun g hg2 => up2 g (d1.own g hg2) (kv j h2 g hg2)), d2.move (by omega) (fun g hg2 => up2 g (d2.own g hg2) (fun e => ?_)), d3⟩
      rcases h.yb j hj h2 g hg2 with e2 | ⟨_, e3⟩
      · exact kv j h2 g e2 e
      · exact e3 e
    · have e1 : j = ys.length := by simp at h1; omega
      subst e1
      simp only [List.getElem_append_right (Nat.le_refl ys.length), Nat.sub_self, List.getElem_cons_zero]
      refine ⟨hg.old.move (by omega) (fun g hg2 => up2 g (hg.old.own g hg2) (kv _ h2 g hg2)), ny.move (by omega) (fun g hg2 => up2 g (ny.own g hg2) (ybk g hg2)), hg.len, hsm⟩
  · by_cases hj : j < ys.length
    · rw [List.getElem_append_left hj] at hg2
      rcases h.yb j hj h2 g hg2 with e2 | ⟨e2, e3⟩
      · exact .inl e2
      · exact .inr ⟨e2, g4b g ((h.done j hj h2).2.1.own g hg2) e3⟩
    · have e1 : j = ys.length := by simp at h1; omega
      subst e1
      simp only [List.getElem_append_right (Nat.le_refl ys.length), Nat.sub_self, List.getElem_cons_zero] at hg2
      rcases hg.yb g hg2 with e2 | ⟨e2, e3, _⟩
      · exact .inl e2
      · exact .inr ⟨e2, g4b g (ny.own g hg2) e3⟩
  · have q := h.todo j hj hr
    exact q.move (fun g hg2 => up2 g (q.own g hg2).1 (kv j hj g hg2))
end

/-- A field of the book: a row of rows. -/
structure Fld (W : World) (X j : Nat) (vs : List Value) (A : Option Addr) (c : Nat) : Prop where
  cell : W.cell? ⟨X, j, none⟩ = some (.slice A vs.length c)
  at_ : ∀ (i : Nat) (hi : i < vs.length), ∃ b off, A = some ⟨b, off, none⟩ ∧ W.cell? ⟨b, off + i, none⟩ = some vs[i]
theorem Fld.upd {w W : World} {X j c : Nat} {vs : List Value} {A : Option Addr} {S : Nat → Prop} (h : Fld w X j vs A c) (hu : Upd w W S) (hX : ¬ S X) (hA : ∀ ad, A = some ad → ¬ S ad.block) : Fld W X j vs A c := by
  have key : ∀ (a : Addr) u, w.cell? a = some u → ¬ S a.block → W.cell? a = some u := fun a u hc hn => by
    rw [← hc]
    unfold World.cell?
    rw [hu.block a.block (World.block_lt_of_cell? w _ hc) hn]
  refine ⟨key _ _ h.cell hX, fun i hi => ?_⟩
  obtain ⟨b, off, e, hc⟩ := h.at_ i hi
  exact ⟨b, off, e, key _ _ hc (show ¬ S b from hA ⟨b, off, none⟩ e)⟩
/-- What is told at the end: the rows as they were handed in and as they have grown. -/
structure PC (W : World) (s add : Nat) (M : Nat → List Value) (vs ys : List Value) (A : Option Addr) (c : Nat) : Prop where
  len : ys.length = vs.length
  row : ∀ (i : Nat) (hi : i < ys.length), ∃ g, A = some ⟨g, 0, none⟩ ∧ W.cell? ⟨g, i, none⟩ = some ys[i]
  done : ∀ (j : Nat) (h1 : j < ys.length) (h2 : j < vs.length), Rdm W s vs[j] (M j) ∧ Rdm W s ys[j] (M j) ∧ vlen ys[j] = vlen vs[j] + add ∧ vlen vs[j] ≤ 1000000
/-- Behind the changes of other rows. -/
theorem PB.told {sh : Nat → Value → Prop} {M : Nat → List Value} {W0 W W' : World} {base : Nat} {e : TypeId} {s : Nat} {ex : TypeId} {add : Nat} {vs ys : List Value} {A : Option Addr} {n c r : Nat} {S : Nat → Prop}
    (h : PB sh M W0 W base e s ex add vs ys (.slice A n c) r) (hl : ys.length = vs.length) (hu : Upd W W' S) (hS : ∀ b, S b → b < W0.heap.size ∧ b ∉ bks vs) : PC W' s add M vs ys A c ∧ n = ys.length := by
  have hn : n = ys.length := by
    rcases h.xrow.2 with ⟨e1, e2⟩ | ⟨g, cap, cur, e1, _⟩
    · injection e1 with _ e3 _
      rw [e3, e2]
    · injection e1 with _ e3 _
  refine ⟨⟨hl, fun i hi => ?_, fun j h1 h2 => ?_⟩, hn⟩
  · rcases h.xrow.2 with ⟨e1, e2⟩ | ⟨g, cap, cur, e1, hg, hh, _⟩
    · omega
    · injection e1 with e3 _ _
      refine ⟨g, e3, ?_⟩
      have := h.xrow.cells (g := g) (by rw [e3]; rfl) i _ (List.getElem?_eq_getElem hi)
      rw [add0] at this
      rw [← this]
      unfold World.cell?
      rw [hu.block g (heap_lt hh) (fun hs => by have := (hS g hs).1; omega)]
  · obtain ⟨d1, d2, d3⟩ := h.done j h1 h2
    refine ⟨d1.upd hu (fun k hk hs => (hS k hs).2 (mem_bks h2 hk)), d2.upd hu (fun k hk hs => ?_), d3⟩
    rcases h.yb j h1 h2 k hk with e1 | ⟨e1, _⟩
    · exact (hS k hs).2 (mem_bks h2 e1)
    · have := (hS k hs).1; omega
end Go.Proofs.YtabeljpnmmfpgaaDoor
