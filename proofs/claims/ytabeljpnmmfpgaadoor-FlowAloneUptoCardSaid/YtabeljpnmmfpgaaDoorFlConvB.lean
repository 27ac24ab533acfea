/-
  The document's words as they are handed in; lists with a mark in the room behind them.
-/
import Derived.Test.YtabeljpnmmfpgaaDoorFlOrder
import Derived.Deep.RegionHeld3
import Derived.Deep.AppendLies
namespace Go.Proofs.YtabeljpnmmfpgaaDoor
open Go.RowKit Go.MapKept Go.Maps Go.Sort
set_option linter.unusedVariables false
set_option linter.unusedSimpArgs false

/-- Instructions that are read. -/
structure InsIn (w : World) (A : Option Addr) (l : List FI) : Prop where
  len : l.length ≤ 2000000
  at_ : ∀ (j : Nat) (hj : j < l.length), ∃ b off, A = some ⟨b, off, none⟩ ∧ w.cell? ⟨b, off + j * 5, none⟩ = some (.int .u16 l[j].at_) ∧ w.cell? ⟨b, off + j * 5 + 1, none⟩ = some (.int .i64 l[j].op) ∧ w.cell? ⟨b, off + j * 5 + 2, none⟩ = some (.int .u16 l[j].operand) ∧
    w.cell? ⟨b, off + j * 5 + 3, none⟩ = some (.int .u16 l[j].word) ∧ w.cell? ⟨b, off + j * 5 + 4, none⟩ = some (.int .u16 l[j].next)
theorem keep_cell {w W : World} {a : Addr} {v : Value} (h : w.cell? a = some v) (hb : Below w.heap.size w W) : W.cell? a = some v := (hb.cell (World.block_lt_of_cell? w _ h)).trans h
theorem InsIn.below {w W : World} {A : Option Addr} {l : List FI} (h : InsIn w A l) (hb : Below w.heap.size w W) : InsIn W A l :=
  ⟨h.len, fun j hj => by
    obtain ⟨b, off, e, h0, h1, h2, h3, h4⟩ := h.at_ j hj
    exact ⟨b, off, e, keep_cell h0 hb, keep_cell h1 hb, keep_cell h2 hb, keep_cell h3 hb, keep_cell h4 hb⟩⟩
/-- A word that is read. -/
structure WordIn (w : World) (b off : Nat) (x : FW) (ia : Option Addr) (ic : Nat) (ca : Option Addr) (cc : Nat) : Prop where
  at0 : 0 ≤ x.at_
  at1 : x.at_ < 65536
  c0 : w.cell? ⟨b, off, none⟩ = some (.int .u16 x.at_)
  c1 : w.cell? ⟨b, off + 1, none⟩ = some (.slice ia x.instrs.length ic)
  c2 : w.cell? ⟨b, off + 2, none⟩ = some (.slice ca x.calls.length cc)
  ins : InsIn w ia x.instrs
  calls : AtsIn w ca x.calls
  small : x.calls.length ≤ 2000000
  nil : ca = none → cc = 0
theorem WordIn.below {w W : World} {b off : Nat} {x : FW} {ia : Option Addr} {ic : Nat} {ca : Option Addr} {cc : Nat} (h : WordIn w b off x ia ic ca cc) (hb : Below w.heap.size w W) : WordIn W b off x ia ic ca cc :=
  ⟨h.at0, h.at1, keep_cell h.c0 hb, keep_cell h.c1 hb, keep_cell h.c2 hb, h.ins.below hb, h.calls.below hb, h.small, h.nil⟩
def FWin (w : World) (A : Option Addr) (ws : List FW) : Prop := ∀ (i : Nat) (hi : i < ws.length), ∃ b off ia ic ca cc, A = some ⟨b, off, none⟩ ∧ WordIn w b (off + i * 3) ws[i] ia ic ca cc
theorem FWin.below {w W : World} {A : Option Addr} {ws : List FW} (h : FWin w A ws) (hb : Below w.heap.size w W) : FWin W A ws := fun i hi => by
  obtain ⟨b, off, ia, ic, ca, cc, e, k⟩ := h i hi
  exact ⟨b, off, ia, ic, ca, cc, e, k.below hb⟩
theorem FWin.take {w : World} {A : Option Addr} {ws : List FW} (h : FWin w A ws) (n : Nat) : FWin w A (ws.take n) := fun i hi => by
  have hi' : i < ws.length := by rw [List.length_take] at hi; omega
  obtain ⟨b, off, ia, ic, ca, cc, e, k⟩ := h i hi'
  exact ⟨b, off, ia, ic, ca, cc, e, by rw [List.getElem_take]; exact k⟩

/-- A row with a mark behind it is the row. -/
theorem ownsRow_cut {w : World} {base : Nat} {e : TypeId} {size n c : Nat} {A : Option Addr} {xs ys : List Value} (h : w.ownsRow base e size (.slice A (n + 1) c) (n + 1) (xs ++ ys)) (hx : xs.length = n * size) : w.ownsRow base e size (.slice A n c) n xs := by
  refine ⟨hx, .inr ?_⟩
  rcases h.2 with ⟨_, hn⟩ | ⟨g, cap, cur, e1, hg, hh, h1, h2, h3, h4⟩
  · omega
  · injection e1 with e1 e2 e3
    subst e1 e3
    refine ⟨g, c, cur, rfl, hg, hh, by omega, h2, h3, ?_⟩
    have e1 : cur.toList.take (n * size) = (cur.toList.take ((n + 1) * size)).take (n * size) := by rw [List.take_take, Nat.min_eq_left (Nat.mul_le_mul_right _ (by omega))]
    rw [e1, h4, List.take_append_of_le_length (by omega), List.take_of_length_le (by omega)]

section
variable {P : Program} {w : World}
/-- An append of a list that is read, to a row of the call's own that is not nil. -/
theorem step_append_own {ops : Array Oper} {o : Oper} {a : Act} {K : Act → World → Prop} {Q : Exit → Act → World → Prop} {E : Prop} (hgd : o.guard = none) (s x : Operand) (t : TypeId)
    (ho : o.op = .call { callee := .builtin .append, args := #[s, x], argTypes := #[t, t] })
    (base : Nat) (e : TypeId) (i : TypeInfo) (z : Value) (size bytes : Nat) (ht : P.underlying t = some (.slice e)) (hi : P.info? e = some i) (hz : i.zero = some z)
    (hsize : i.size = size) (hby : i.bytes = bytes) (hzs : z.cells.size = size) (hsz : 0 < size)
    (g0 n c0 : Nat) (xs : List Value) (hs : a.eval s = .slice (some ⟨g0, 0, none⟩) n c0) (hown : w.ownsRow base e size (.slice (some ⟨g0, 0, none⟩) n c0) n xs)
    (A : Option Addr) (m c : Nat) (news : List Value) (hx : a.eval x = .slice A m c) (hnil : A = none → c = 0 ∧ m = 0) (hl : news.length = m * size) (hnews : ∀ ad, A = some ad → ∀ j u, news[j]? = some u → w.cell? (ad.add j) = some u) (h1 : ∀ u ∈ news, u.oneCell' = true)
    (h63 : n + m ≤ maxLen) (hbytes : (n + m) * bytes ≤ 140737488355328) (hbase : base ≤ w.heap.size) (r : Nat) (hr : n + m = r)
    (h : ∀ g cap w', w'.ownsRow base e size (.slice (some ⟨g, 0, none⟩) r cap) r (xs ++ news) → Upd w w' (fun k => k = g0) → (g = g0 ∨ g = w.heap.size) → K (a.put o.dst (.slice (some ⟨g, 0, none⟩) r cap)) w') :
    if Region.wanted o (yielded ops a.tmps) = true then Oper.wp P o a w K Q else E := by
  subst hr
  have hw : Region.wanted o (yielded ops a.tmps) = true := by simp [Region.wanted, hgd]
  rw [if_pos hw]
  cases A with
  | none =>
    obtain ⟨rfl, rfl⟩ := hnil rfl
    have hn : news = [] := List.eq_nil_of_length_eq_zero (by omega)
    subst hn
    have hrun := run_append_owned_none (P := P) (w := w) base t o.type e i size ht hi _ n xs hown
    unfold Oper.wp
    simp [execOp, ho, resolve, invoke, builtin, hs, hx, hrun, Result.andThen]
    have := h g0 c0 w (by simpa using hown) (Upd.refl _ _) (.inl rfl)
    exact this
  | some ad =>
    obtain ⟨v', w', hrun, r1, r2, r3, r4⟩ := run_append_own_at (P := P) (w := w) base t o.type e i z size bytes ht hi hz hsize hby hzs hsz _ n xs hown ad m c news hl (hnews ad rfl) h1 h63 hbytes hbase
    unfold Oper.wp
    simp [execOp, ho, resolve, invoke, builtin, hs, hx, hrun, Result.andThen]
    have u := (Upd.of_grown r2).mono (T := fun k => k = g0) (fun k _ hk => by simpa [Value.ownBlock] using hk)
    rcases r1.2 with ⟨e1, _⟩ | ⟨g, cap, cur, e1, _⟩
    · have := (r3.1 e1).1; cases this
    · subst e1
      exact h g cap w' r1 u (by simpa [Value.ownBlock] using r4)
end
theorem ownsRow_keep {w W : World} {base : Nat} {e : TypeId} {size n : Nat} {v : Value} {xs : List Value} (h : w.ownsRow base e size v n xs) (hm : ∀ k, v.ownBlock = some k → W.heap[k]? = w.heap[k]?) : W.ownsRow base e size v n xs := by
  obtain ⟨h1, h2⟩ := h
  refine ⟨h1, ?_⟩
  rcases h2 with h2 | ⟨g, cap, cur, rfl, hg, hh, r⟩
  · exact .inl h2
  · exact .inr ⟨g, cap, cur, rfl, hg, (hm g (by simp [Value.ownBlock])).trans hh, r⟩
theorem ownsRow_some {w : World} {base : Nat} {e : TypeId} {size n g c : Nat} {xs : List Value} (h : w.ownsRow base e size (.slice (some ⟨g, 0, none⟩) n c) n xs) : base ≤ g ∧ g < w.heap.size ∧ n ≤ c := by
  rcases h.2 with ⟨e, _⟩ | ⟨g', cap, cur, e1, hg, hh, h1, _⟩
  · cases e
  · cases e1
    exact ⟨hg, heap_lt hh, h1⟩
/-- Behind an append to a row of blocks from 'base' on: what lies below stays. -/
theorem below_app {w a b : World} {base g : Nat} (h : Below base w a) (hs : base ≤ a.heap.size) (hg : base ≤ g) (hu : Upd a b (fun k => k = g)) : Below base w b := h.trans (hu.below hs (fun i hi => by omega))
theorem infoW' : (Tryd.prog.info? 53).map (fun i => (i.zero, i.size, i.bytes)) = some (some (.agg #[.int .u16 0, .slice none 0 0, .slice none 0 0]), 3, 56) := by kernel_rfl

/-- A word as Words lays it: with marks behind its lists. -/
structure CvW (W : World) (base : Nat) (t : WT) (x : FW) : Prop where
  at_ : (t.at_.val : Int) = x.at_
  il : t.il = x.instrs.length
  cl : t.cl = x.calls.length
  ins : W.ownsRow base 60 5 (.slice t.ia (t.il + 1) t.ic) (x.instrs.length + 1) (x.instrs.flatMap FI.cells ++ [.int .u16 0, .int .i64 777, .int .u16 0, .int .u16 0, .int .u16 0])
  calls : W.ownsRow base 23 1 (.slice t.ca (t.cl + 1) t.cc) (x.calls.length + 1) (x.calls.map (Value.int .u16) ++ [.int .u16 7777])
theorem flat5_len : ∀ l : List FI, (l.flatMap FI.cells).length = l.length * 5
  | [] => rfl
  | x :: l => by
    have h3 : x.cells.length = 5 := rfl
    rw [List.flatMap_cons, List.length_append, h3, flat5_len l, List.length_cons]; omega
theorem CvW.wrep {W : World} {base : Nat} {t : WT} {x : FW} (h : CvW W base t x) : WRep W base t x := by
  refine ⟨h.at_, ?_, ?_⟩
  · have h' := h.ins
    rw [h.il] at h'
    have := ownsRow_cut h' (by rw [flat5_len])
    unfold RowI WT.vi
    rw [h.il]; exact this
  · have h' := h.calls
    rw [h.cl] at h'
    have := ownsRow_cut h' (by simp)
    unfold RowU WT.vc
    rw [h.cl]; exact this
theorem CvW.move {w W : World} {base : Nat} {t : WT} {x : FW} (h : CvW w base t x) (hm : ∀ k, k ∈ t.blks → W.heap[k]? = w.heap[k]?) : CvW W base t x := by
  refine ⟨h.at_, h.il, h.cl, ?_, ?_⟩
  · rcases h.ins with ⟨h1, ⟨e, hn⟩ | ⟨g, cap, cur, e, hg, hh, r⟩⟩
    · omega
    · refine ⟨h1, .inr ⟨g, cap, cur, e, hg, (hm g ?_).trans hh, r⟩⟩
      injection e with e1 _ _
      simp [WT.blks, WT.vi, Value.ownBlock, e1]
  · rcases h.calls with ⟨h1, ⟨e, hn⟩ | ⟨g, cap, cur, e, hg, hh, r⟩⟩
    · omega
    · refine ⟨h1, .inr ⟨g, cap, cur, e, hg, (hm g ?_).trans hh, r⟩⟩
      injection e with e1 _ _
      simp [WT.blks, WT.vc, Value.ownBlock, e1]
theorem CvW.lt {w : World} {base : Nat} {t : WT} {x : FW} (h : CvW w base t x) (k : Nat) (hk : k ∈ t.blks) : k < w.heap.size ∧ base ≤ k := h.wrep.lt k hk

/-- The first k words, laid. -/
structure CvRel (w wr : World) (v : Value) (ts : List WT) (ws : List FW) : Prop where
  below : Below w.heap.size w wr
  row : RowW wr w.heap.size v ts
  len : ts.length ≤ ws.length
  rep : ∀ (i : Nat) (h1 : i < ts.length) (h2 : i < ws.length), CvW wr w.heap.size ts[i] ws[i]
  apart : (v.ownBlock.toList ++ blks ts).Nodup
theorem blks_mem {ts : List WT} {k : Nat} (h : k ∈ blks ts) : ∃ (i : Nat) (hi : i < ts.length), k ∈ (ts[i]).blks := by
  unfold blks at h
  obtain ⟨t, ht, hk⟩ := List.mem_flatMap.1 h
  obtain ⟨i, hi, e⟩ := List.getElem_of_mem ht
  exact ⟨i, hi, by rw [e]; exact hk⟩
theorem mem_blks {ts : List WT} {i : Nat} (hi : i < ts.length) {k : Nat} (h : k ∈ (ts[i]).blks) : k ∈ blks ts := by
  unfold blks
  exact List.mem_flatMap.2 ⟨_, List.getElem_mem hi, h⟩
theorem CvRel.blk {w wr : World} {v : Value} {ts : List WT} {ws : List FW} (h : CvRel w wr v ts ws) (k : Nat) (hk : k ∈ blks ts) : k < wr.heap.size ∧ w.heap.size ≤ k := by
  obtain ⟨i, hi, hk'⟩ := blks_mem hk
  exact (h.rep i hi (by have := h.len; omega)).lt k hk'
/-- One word more. -/
theorem CvRel.step {w wr w2 w3 : World} {v v' : Value} {ts : List WT} {ws : List FW} {t : WT} (h : CvRel w wr v ts ws) (hk : ts.length < ws.length) (hb : Below wr.heap.size wr w2) (hc : CvW w2 wr.heap.size t ws[ts.length]) (hd : t.blks.Nodup)
    (hg : Upd w2 w3 (fun i => some i = v.ownBlock)) (hv : RowW w3 w.heap.size v' (ts ++ [t])) (hn : v'.ownBlock = v.ownBlock ∨ ∃ b, v'.ownBlock = some b ∧ w2.heap.size ≤ b) : CvRel w w3 v' (ts ++ [t]) ws := by
  have s1 := h.below.size
  have s2 := hb.size
  have s3 := hg.size
  have bv : ∀ k, v.ownBlock = some k → k < wr.heap.size ∧ w.heap.size ≤ k := fun k hk => h.row.own k hk
  have dj : ∀ k, v.ownBlock = some k → k ∉ blks ts := fun k hk hm => (List.nodup_append.1 h.apart).2.2 k (by simp [hk]) k hm rfl
  refine ⟨?_, hv, by simp; omega, fun i h1 h2 => ?_, ?_⟩
  · exact (b_then h.below hb).trans (hg.below (by omega) (fun i hi => (bv i hi.symm).2))
  · by_cases hi : i < ts.length
    · rw [List.getElem_append_left hi]
      refine (h.rep i hi h2).move (fun k hk => ?_)
      have hk' := (h.rep i hi h2).lt k hk
      exact (hg.block k (by omega) (fun e => dj k e.symm (mem_blks hi hk))).trans (hb.block k hk'.1)
    · have e : i = ts.length := by simp at h1; omega
      subst e
      have hc' : CvW w2 w.heap.size t ws[ts.length] := by
        refine ⟨hc.at_, hc.il, hc.cl, ?_, ?_⟩
        · obtain ⟨h1, h2⟩ := hc.ins
          refine ⟨h1, h2.imp id ?_⟩
          rintro ⟨g, cap, cur, e, hg, r⟩
          exact ⟨g, cap, cur, e, by omega, r⟩
        · obtain ⟨h1, h2⟩ := hc.calls
          refine ⟨h1, h2.imp id ?_⟩
          rintro ⟨g, cap, cur, e, hg, r⟩
          exact ⟨g, cap, cur, e, by omega, r⟩
      simp only [List.getElem_append_right (Nat.le_refl ts.length), Nat.sub_self, List.getElem_cons_zero]
      refine hc'.move (fun k hk => ?_)
      have hk' := hc.lt k hk
      exact hg.block k hk'.1 (fun e => by have := (bv k e.symm).1; omega)
  · have e : blks (ts ++ [t]) = blks ts ++ t.blks := by unfold blks; simp
    rw [e]
    have nb : (blks ts).Nodup := (List.nodup_append.1 h.apart).2.1
    have inner : (blks ts ++ t.blks).Nodup := by
      refine List.nodup_append.2 ⟨nb, hd, fun a ha b hb' e => ?_⟩
      subst e
      have := (h.blk a ha).1
      have := (hc.lt a hb').2
      omega
    refine List.nodup_append.2 ⟨by cases v'.ownBlock <;> simp, inner, fun a ha b hb' e => ?_⟩
    subst e
    have ha' : v'.ownBlock = some a := by simpa using ha
    rcases hn with hn | ⟨b, hn, hb2⟩
    · rw [hn] at ha'
      rcases List.mem_append.1 hb' with hm | hm
      · exact dj a ha' hm
      · have := (bv a ha').1; have := (hc.lt a hm).2; omega
    · rw [hn] at ha'
      obtain rfl := Option.some.inj ha'
      rcases List.mem_append.1 hb' with hm | hm
      · have := (h.blk b hm).1; omega
      · have := (hc.lt b hm).1; omega
end Go.Proofs.YtabeljpnmmfpgaaDoor
