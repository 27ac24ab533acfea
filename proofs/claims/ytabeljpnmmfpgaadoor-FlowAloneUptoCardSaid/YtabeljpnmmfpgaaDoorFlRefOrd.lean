/-
  The reference's Order: what it answers is the program's own order.
-/
import Derived.Deep.RegionHeld3
import Derived.Test.YtabeljpnmmfpgaaDoorFlRefA
import Derived.Test.YtabeljpnmmfpgaaDoorFlBehB
import Derived.Deep.Cut
import Derived.Deep.Strs
namespace Go.Proofs.YtabeljpnmmfpgaaDoor
open Go.RowKit Go.MapKept Go.Maps Go.Sort
set_option linter.unusedVariables false
set_option linter.unusedSimpArgs false

/-- A row of the document's words. -/
def RowX (w : World) (base : Nat) (v : Value) (l : List WT) : Prop := w.ownsRow base 76 3 v l.length (l.flatMap WT.cells)
theorem RowX.slice {w : World} {base : Nat} {v : Value} {l : List WT} (h : RowX w base v l) : ∃ A c, v = .slice A l.length c := by
  rcases h.2 with ⟨rfl, hn⟩ | ⟨g, cap, cur, rfl, _⟩
  · exact ⟨none, 0, by rw [hn]⟩
  · exact ⟨_, cap, rfl⟩
theorem RowX.own {w : World} {base : Nat} {v : Value} {l : List WT} (h : RowX w base v l) (k : Nat) (hk : v.ownBlock = some k) : k < w.heap.size ∧ base ≤ k := by
  rcases h.2 with ⟨rfl, _⟩ | ⟨g, cap, cur, rfl, hb, hh, _⟩
  · simp [Value.ownBlock] at hk
  · have : g = k := by simpa [Value.ownBlock] using hk
    subst this
    exact ⟨heap_lt hh, hb⟩
theorem RowX.move {w W : World} {base : Nat} {v : Value} {l : List WT} (h : RowX w base v l) (hm : ∀ k, v.ownBlock = some k → W.heap[k]? = w.heap[k]?) : RowX W base v l := ownsRow_keep h hm
theorem RowX.below {w W : World} {base : Nat} {v : Value} {l : List WT} (h : RowX w base v l) (hb : Below w.heap.size w W) : RowX W base v l := h.move (fun k hk => hb.block k (h.own k hk).1)
theorem RowX.at_ {w : World} {base n c : Nat} {A : Option Addr} {l : List WT} (h : RowX w base (.slice A n c) l) {i : Nat} (hi : i < l.length) : ∃ g, A = some ⟨g, 0, none⟩ ∧
    w.cell? ⟨g, i * 3, none⟩ = some (.int .u16 (l[i].at_.val : Int)) ∧ w.cell? ⟨g, i * 3 + 1, none⟩ = some l[i].vi ∧ w.cell? ⟨g, i * 3 + 2, none⟩ = some l[i].vc := by
  have h' : w.ownsRow base 76 3 (.slice A n c) l.length (l.flatMap WT.cells) := h
  rcases h'.2 with ⟨e, hn⟩ | ⟨g, cap, cur, e, hg, _⟩
  · omega
  · cases e
    have key : ∀ k u, k < 3 → (l[i]).cells[k]? = some u → w.cell? ⟨g, i * 3 + k, none⟩ = some u := fun k u hk hu => by
      have := h'.cells (g := g) rfl (i * 3 + k) u (by rw [flat3 l i k hi hk]; exact hu)
      have e : (⟨g, 0, none⟩ : Addr).add (i * 3 + k) = ⟨g, i * 3 + k, none⟩ := by unfold Addr.add; split <;> simp_all
      rwa [e] at this
    exact ⟨g, rfl, key 0 _ (by decide) rfl, key 1 _ (by decide) rfl, key 2 _ (by decide) rfl⟩
theorem wt_one (l : List WT) : ∀ u ∈ l.flatMap WT.cells, u.oneCell' = true := by
  intro u hu
  obtain ⟨t, _, ht⟩ := List.mem_flatMap.1 hu
  simp [WT.cells, WT.vi, WT.vc] at ht
  rcases ht with rfl | rfl | rfl <;> rfl
theorem ordArg_len (l : List FW) : (ordArg l).length = l.length := by simp [ordArg]
/-- Words that are read: their cells, as Order takes them. -/
theorem fwin_ts {w : World} {A : Option Addr} {ws : List FW} (h : FWin w A ws) :
    ∃ ts : List WT, LReps w ts (ordArg ws) ∧ (∀ ad, A = some ad → ∀ j u, (ts.flatMap WT.cells)[j]? = some u → w.cell? (ad.add j) = some u) ∧ ∀ (i : Nat) (h1 : i < ts.length) (h2 : i < ws.length), (ts[i]).il = (ws[i]).instrs.length ∧ InsIn w (ts[i]).ia (ws[i]).instrs := by
  have pick : ∀ i, i < ws.length → ∃ t : WT, ∀ (hi : i < ws.length), (t.at_.val : Int) = (ws[i]).at_ ∧ t.il = (ws[i]).instrs.length ∧ InsIn w t.ia (ws[i]).instrs ∧ t.cl = (ws[i]).calls.length ∧ AtsIn w t.ca (ws[i]).calls ∧
      ∃ b off, A = some ⟨b, off, none⟩ ∧ ∀ k u, k < 3 → t.cells[k]? = some u → w.cell? ⟨b, off + i * 3 + k, none⟩ = some u := fun i hi => by
    obtain ⟨b, off, ia, ic, ca, cc, e, q⟩ := h i hi
    have h0 := q.at0
    have h1 := q.at1
    refine ⟨⟨⟨(ws[i]).at_.toNat, by omega⟩, ia, (ws[i]).instrs.length, ic, ca, (ws[i]).calls.length, cc⟩, fun _ => ⟨Int.toNat_of_nonneg h0, rfl, q.ins, rfl, q.calls, b, off, e, fun k u hk hu => ?_⟩⟩
    match k, hk with
    | 0, _ =>
      have : (some (Value.int .u16 (((ws[i]).at_.toNat : Nat) : Int))) = some u := hu
      rw [Int.toNat_of_nonneg h0] at this
      rw [← this]; exact q.c0
    | 1, _ =>
      have : some (Value.slice ia (ws[i]).instrs.length ic) = some u := hu
      rw [← this]; exact q.c1
    | 2, _ =>
      have : some (Value.slice ca (ws[i]).calls.length cc) = some u := hu
      rw [← this]; exact q.c2
  obtain ⟨f, hf⟩ := Deep.choose_lt (α := WT) pick
  have el : ∀ (i : Nat) (hi : i < ((List.range ws.length).map f).length), ((List.range ws.length).map f)[i] = f i := fun i hi => by simp
  refine ⟨(List.range ws.length).map f, ⟨by simp [ordArg], fun i h1 h2 => ?_⟩, fun ad e j u hj => ?_, fun i h1 h2 => ?_⟩
  · have h3 : i < ws.length := by simpa using h1
    obtain ⟨p1, p2, p3, p4, p5, p6⟩ := hf i h3 h3
    rw [el i h1, show (ordArg ws)[i] = ((ws[i]).at_, (ws[i]).calls) by simp [ordArg]]
    exact ⟨p1, p4, p5⟩
  · have hjl : j < ((List.range ws.length).map f).length * 3 := by rw [← flat3_len]; exact (List.getElem?_eq_some_iff.1 hj).1
    have h3 : j / 3 < ws.length := by simp at hjl; omega
    have h4 : j / 3 < ((List.range ws.length).map f).length := by simpa using h3
    obtain ⟨_, _, _, _, _, b, off, e2, key⟩ := hf (j / 3) h3 h3
    rw [e] at e2
    cases e2
    have e3 : j / 3 * 3 + j % 3 = j := by omega
    have := flat3 ((List.range ws.length).map f) (j / 3) (j % 3) h4 (by omega)
    rw [e3, hj, el _ h4] at this
    have := key (j % 3) u (by omega) this.symm
    rw [show off + j / 3 * 3 + j % 3 = off + j by omega] at this
    rw [show (⟨b, off, none⟩ : Addr).add j = ⟨b, off + j, none⟩ by unfold Addr.add; split <;> simp_all]
    exact this
  · obtain ⟨p1, p2, p3, _⟩ := hf i h2 h2
    rw [el i h1]
    exact ⟨p2, p3⟩

section
variable {P : Program} {w : World}
/-- An append of nil. -/
theorem wpList_append_none {ops : Array Oper} {rest : List Oper} {o : Oper} {a : Act} {Q : Exit → Act → World → Prop} (hgd : o.guard = none) (s x : Operand) (t : TypeId)
    (ho : o.op = .call { callee := .builtin .append, args := #[s, x], argTypes := #[t, t] })
    (base : Nat) (e : TypeId) (i : TypeInfo) (size : Nat) (ht : P.underlying t = some (.slice e)) (hi : P.info? e = some i)
    (v : Value) (n : Nat) (xs : List Value) (hs : a.eval s = v) (hown : w.ownsRow base e size v n xs) (hx : a.eval x = .slice none 0 0)
    (h : wpList P ops Q rest (a.put o.dst v) w) :
    wpList P ops Q (o :: rest) a w := by
  refine wpList_plain hgd fun K hK => ?_
  have hr := run_append_owned_none (P := P) (w := w) base t o.type e i size ht hi v n xs hown
  unfold Oper.wp execOp
  simp only [ho, resolve, invoke, builtin, Sem.run_bind, Sem.run_pure, Result.andThen_ok, List.map_toArray, List.map_cons, List.map_nil, hs, hx, hr]
  exact hK _ _ h
end
/-- What the reference's Order answers. -/
def ROrdPost (w : World) (r : Except Int (List Int)) (e : Ending) (w' : World) : Prop :=
  Below w.heap.size w w' ∧ match r with
    | .error a => e = .returned (.tuple #[.slice none 0 0, .int .i64 163, .int .u16 a])
    | .ok out => ∃ v, e = .returned (.tuple #[v, .int .i64 0, .int .u16 0]) ∧ RowU w' w.heap.size v out
/-- Where the loop stands. -/
structure RSt (w wr : World) (vt vl : Value) (out : List Int) (ts : List WT) (xs : List (Int × List Int)) : Prop where
  below : Below w.heap.size w wr
  told : RowU wr w.heap.size vt out
  left : RowX wr w.heap.size vl ts
  rep : LReps w ts xs
  apart : ∀ i, vt.ownBlock = some i → vl.ownBlock ≠ some i
theorem RSt.bel {w wr W : World} {vt vl : Value} {out : List Int} {ts : List WT} {xs : List (Int × List Int)} (h : RSt w wr vt vl out ts xs) (hb : Below wr.heap.size wr W) : RSt w W vt vl out ts xs :=
  ⟨b_then h.below hb, h.told.below hb, h.left.below hb, h.rep, h.apart⟩
theorem RSt.put {w wr w3 : World} {A2 : Option Addr} {no c2 g4 cap4 : Nat} {vl : Value} {out : List Int} {a : Int} {ts : List WT} {xs : List (Int × List Int)} {ob : Obj} (h : RSt w wr (.slice A2 no c2) vl out ts xs) (hn : no = out.length)
    (ho : w3.ownsRow w.heap.size 23 1 (.slice (some ⟨g4, 0, none⟩) (no + 1) cap4) (no + 1) (out.map (Value.int .u16) ++ [.int .u16 a])) (hg : (wr.alloc ob).grownBy w3 (Value.slice A2 no c2).ownBlock)
    (hat : (Value.slice (some ⟨g4, 0, none⟩) (no + 1) cap4).ownBlock = (Value.slice A2 no c2).ownBlock ∨ (Value.slice (some ⟨g4, 0, none⟩) (no + 1) cap4).ownBlock = some (wr.alloc ob).heap.size) :
    RSt w w3 (.slice (some ⟨g4, 0, none⟩) (no + 1) cap4) vl (out ++ [a]) ts xs := by
  have hu := Upd.of_grown hg
  have hl : ∀ i, vl.ownBlock = some i → w3.heap[i]? = wr.heap[i]? := fun i hi =>
    (hu.block i (by have := (h.left.own i hi).1; simp; omega) (fun e => h.apart i e.symm hi)).trans (Below.heap_alloc _ _ _ (h.left.own i hi).1)
  refine ⟨(b_alloc h.below ob).trans (hu.below (by have := h.below.size; simp; omega) (fun i hi => (h.told.lt i hi.symm).2)), ?_, h.left.move hl, h.rep, fun i hi e => ?_⟩
  · unfold RowU
    rw [show (out ++ [a]).length = no + 1 by simp [hn], List.map_append]
    exact ho
  · rcases hat with hat | hat
    · rw [hi] at hat; exact h.apart i hat.symm e
    · rw [hi] at hat
      have e2 := Option.some.inj hat
      have := (h.left.own i e).1
      simp at e2; omega
theorem RSt.erase {w wr w3 : World} {vt : Value} {g c1 i kb r g2 cap2 : Nat} {A1 : Option Addr} {out : List Int} {ts : List WT} {xs : List (Int × List Int)} (h : RSt w wr vt (.slice A1 i c1) out ts xs) (hi : i = ts.length) (hk : kb < i) (hr : r + 1 = i) (hb : Below wr.heap.size wr w3)
    (ho : w3.ownsRow wr.heap.size 76 3 (.slice (some ⟨g2, 0, none⟩) r cap2) r ((ts.take kb).flatMap WT.cells ++ (ts.drop (kb + 1)).flatMap WT.cells)) :
    RSt w w3 vt (.slice (some ⟨g2, 0, none⟩) r cap2) out (ts.eraseIdx kb) (xs.eraseIdx kb) := by
  have q := ownsRow_some ho
  have hkx : kb < xs.length := by rw [← h.rep.len, ← hi]; exact hk
  refine ⟨b_then h.below hb, h.told.below hb, ?_, h.rep.erase kb hkx, fun i hi e => ?_⟩
  · unfold RowX
    rw [List.length_eraseIdx_of_lt (by rw [← hi]; exact hk), ← hi, show i - 1 = r by omega, List.eraseIdx_eq_take_drop_succ, List.flatMap_append]
    obtain ⟨h1, h2⟩ := ho
    refine ⟨h1, h2.imp id ?_⟩
    rintro ⟨g, cap, cur, e, hg, rr⟩
    exact ⟨g, cap, cur, e, by have := h.below.size; omega, rr⟩
  · have e2 : g2 = i := by simpa [Value.ownBlock] using e
    have := (h.told.lt i hi).1
    omega
def vlen : Value → Nat
  | .slice _ n _ => n
  | _ => 0
theorem infoX : (Tryd.prog.info? 76).map (fun i => (i.zero, i.size, i.bytes)) = some (some (.agg #[.int .u16 0, .slice none 0 0, .slice none 0 0]), 3, 56) := by kernel_rfl

set_option maxRecDepth 100000 in
set_option maxHeartbeats 8000000 in
theorem refOrd_any (w : World) (A : Option Addr) (c : Nat) (ws : List FW) (h : FWin w A ws) (hA : A = none → ws.length = 0 ∧ c = 0) (hl : ws.length ≤ 1000) (k : Nat) (r : Except Int (List Int)) (hr : ord k (ordArg ws) [] = some r) :
    Calls Tryd.prog 28 #[.slice A ws.length c] w fun e w' => ROrdPost w r e w' := by
  obtain ⟨ts0, LR0, NW0, _⟩ := fwin_ts h
  have HR0 := Lib.hid hr
  have LR := Lib.hid LR0
  have NW := Lib.hid NW0
  have HTL : Hid (ts0.length = ws.length) := by
    show ts0.length = ws.length
    rw [LR0.len, ordArg_len]
  obtain ⟨N, hN⟩ : ∃ N, N = ws.length := ⟨_, rfl⟩
  rw [← hN] at hl hA HTL ⊢
  have HN := Lib.hid hN
  obtain ⟨i2, hi2, hp0, hp1, hp2⟩ := info_parts infoX
  obtain ⟨i0, hi0, hz0, hz1, hz2⟩ := info_parts infoU16
  have HAN := Lib.hid hA
  clear h hr LR0 NW0 hN hA
  go_enter Tryd.func28, Tryd.ntmps28
  go_upto_region 2 with fail
  go_cut [6] from 11 (fun v wx => Hid (RSt w wx (.slice none 0 0) v [] ts0 (ordArg ws)))
  case first =>
    have b0 := Lib.hid (b_alloc (Below.refl w.heap.size w) (.cells #[] 76))
    have RW : Hid ((w.alloc (.cells #[] 76)).ownsRow w.heap.size 76 3 (.slice (some ⟨w.heap.size, 0, none⟩) 0 0) 0 []) := ⟨rfl, .inr ⟨w.heap.size, 0, #[], rfl, Nat.le_refl _, heap_alloc_at _ _, Nat.le_refl _, by simp [maxLen], rfl, rfl⟩⟩
    cases A with
    | none =>
      obtain ⟨rfl, rfl⟩ := HAN.out rfl
      have FN : Hid (RSt w (w.alloc (.cells #[] 76)) (.slice none 0 0) (.slice (some ⟨w.heap.size, 0, none⟩) 0 0) [] ts0 (ordArg ws)) := by
        have e0 : ts0 = [] := List.eq_nil_of_length_eq_zero HTL.out
        refine ⟨b0.out, RowU.nil _ _, ?_, LR.out, fun i hi => by simp [Value.ownBlock] at hi⟩
        rw [e0]; exact RW.out
      go_wp2_with (first
        | (at_builtin; refine wpList_append_none rfl _ _ 36 rfl w.heap.size 76 i2 3 Tryd.underlying36 hi2 (.slice (some ⟨w.heap.size, 0, none⟩) 0 0) 0 [] rfl RW.out rfl ?_))
      go_meet
      exact FN
    | some ad =>
      have NW2 : Hid (∀ j u, (ts0.flatMap WT.cells)[j]? = some u → (w.alloc (.cells #[] 76)).cell? (ad.add j) = some u) := fun j u hj => keep_cell (NW.out ad rfl j u hj) b0.out
      have LN := Lib.hid (show (ts0.flatMap WT.cells).length = N * 3 by rw [flat3_len, HTL.out])
      have FIN : Hid (∀ (v' : Value) (w3 : World), (w.alloc (.cells #[] 76)).grownBy w3 (Value.slice (some ⟨w.heap.size, 0, none⟩) 0 0).ownBlock → w3.ownsRow w.heap.size 76 3 v' (0 + N) ([] ++ ts0.flatMap WT.cells) → RSt w w3 (.slice none 0 0) v' [] ts0 (ordArg ws)) := fun v' w3 hg ho => by
        have hu := Upd.of_grown hg
        refine ⟨b0.out.trans (hu.below (by simp) (fun i hi => ?_)), RowU.nil _ _, ?_, LR.out, fun i hi => by simp [Value.ownBlock] at hi⟩
        · have : i = w.heap.size := by simpa [Value.ownBlock] using hi
          omega
        · unfold RowX
          rw [HTL.out, Nat.zero_add] at *
          exact ho
      go_wp2_with (first
        | (at_builtin; refine wpList_append_own_at _ rfl _ _ 36 rfl w.heap.size 76 i2 _ 3 56 Tryd.underlying36 hi2 hp0 hp1 hp2 rfl (by decide) (.slice (some ⟨w.heap.size, 0, none⟩) 0 0) 0 [] rfl RW.out ad N c (ts0.flatMap WT.cells) rfl LN.out NW2.out (wt_one ts0) (by simp only [maxLen]; omega) (by omega) (by simp) ?_; intro v' w3 ho hgr _ hat; have FN := Lib.hid (FIN.out v' w3 hgr ho); clear ho hgr hat))
      go_meet
      exact FN
  case rest =>
    have XL := Lib.hid (ordArg_len ws)
    have HC := Lib.hid hcut.out
    clear hcut NW HTL HAN LR
    go_wp2_with (fail)
    go_loopw [5, 6] (fun vt vl wr => ∃ (k : Nat) (out : List Int) (ts : List WT) (xs : List (Int × List Int)), Hid (ord k xs out = some r) ∧ Hid (RSt w wr vt vl out ts xs) ∧ xs.length ≤ 1000 ∧ out.length + xs.length ≤ 1000) (fun _ v _ => vlen v)
    case atStart => exact ⟨k, [], ts0, ordArg ws, HR0, HC, by rw [XL.out, ← HN.out]; exact hl, by rw [XL.out, ← HN.out]; simpa using hl⟩
    case round =>
      clear HR0 HC XL
      obtain ⟨k, out, ts, xs, HO, HS, hxl, hol⟩ := hrel
      cases k with
      | zero => exact absurd HO.out (by simp [ord])
      | succ k1 =>
        obtain ⟨A1, c1, rfl⟩ := HS.out.left.slice
        obtain ⟨A2, c2, rfl⟩ := HS.out.told.slice
        have tlen := Lib.hid HS.out.rep.len
        obtain ⟨n, hn⟩ : ∃ n, n = ts.length := ⟨_, rfl⟩
        obtain ⟨no, hno⟩ : ∃ no, no = out.length := ⟨_, rfl⟩
        rw [← hn] at HS ⊢
        rw [← hno] at HS ⊢
        have HNT := Lib.hid hn
        have HNO := Lib.hid hno
        have HNX : Hid (n = xs.length) := by rw [hn]; exact tlen.out
        have hnl : n ≤ 1000 := by rw [HNX.out]; exact hxl
        clear hn hno
        by_cases hx0 : n = 0
        · have hre : Hid (r = .ok out) := by
            have := HO.out
            unfold ord at this
            rw [if_pos (by rw [← HNX.out]; exact hx0)] at this
            exact (Option.some.inj this).symm
          subst hx0
          have FIN : Hid (ROrdPost w r (.returned (.tuple #[.slice A2 no c2, .int .i64 0, .int .u16 0])) wr) := by
            rw [hre.out]
            exact ⟨HS.out.below, _, rfl, HS.out.told⟩
          go_wp2_with (fail)
          refine bodyPost_ret (v := .tuple #[.slice A2 no c2, .int .i64 0, .int .u16 0]) (by simp [results, Tryd.results28, go_sem]) rfl ?_
          exact FIN.out
        · have n0 : 0 < n := by omega
          have dn : decide (0 < n) = true := decide_eq_true n0
          have dn2 : (0 : Int) < (n : Int) := by omega
          obtain ⟨wa, hwa⟩ : ∃ wa, wa = wr := ⟨_, rfl⟩
          subst hwa
          go_wp2_with (fail)
          go_loopw [7, 8] (fun p q W => ∃ i : Nat, p = .int .i64 (bI (bestOf out xs i)) ∧ q = .int .i64 (i : Int) ∧ i ≤ n ∧ Hid (Below wa.heap.size wa W)) (fun _ q _ => n - (intOf q).toNat)
          case atStart => exact ⟨0, rfl, rfl, Nat.zero_le _, Lib.hid (Below.refl _ _)⟩
          case round =>
            obtain ⟨i, rfl, rfl, hi, hb⟩ := hrel
            by_cases hlt : i < n
            · have hlx : i < xs.length := by rw [← HNX.out]; exact hlt
              have hlt' : i < ts.length := by rw [← HNT.out]; exact hlt
              have st := HS.out.bel hb.out
              obtain ⟨g, rfl, c0, k1', k2'⟩ := st.left.at_ hlt'
              have hrp := HS.out.rep.rep i hlt' hlx
              have sdef : bestOf out xs (i + 1) = bestStep out xs (bestOf out xs i) i := bestOf_succ _ _ _
              have gd : xs.getD i (0, []) = xs[i] := by rw [List.getD_eq_getElem?_getD, List.getElem?_eq_getElem hlx]; rfl
              unfold bestStep at sdef
              rw [gd] at sdef
              obtain ⟨t, ht⟩ : ∃ t, t = ts[i] := ⟨_, rfl⟩
              obtain ⟨x, hx⟩ : ∃ x, x = xs[i] := ⟨_, rfl⟩
              rw [← ht] at c0 k2' hrp
              rw [← hx] at hrp sdef
              obtain ⟨ta, ia, il, ic, ca, cl, cc⟩ := t
              obtain ⟨a, cs⟩ := x
              obtain ⟨h1, h2, h3⟩ := hrp
              replace h1 : (ta.val : Int) = a := h1
              replace h2 : cl = cs.length := h2
              replace h3 : AtsIn w ca cs := h3
              replace c0 : wr.cell? ⟨g, i * 3, none⟩ = some (.int .u16 a) := by rw [← h1]; exact c0
              replace k2' : wr.cell? ⟨g, i * 3 + 2, none⟩ = some (.slice ca cl cc) := k2'
              have HCL := Lib.hid h2
              have SD := Lib.hid sdef
              have NB : Hid (∀ nq, Below wa.heap.size wa (wr.drewN nq)) := fun nq => b_drewN hb.out nq
              have HO2 := Lib.hid (show no = out.length from HNO.out)
              have TA : Hid (∀ nq, AtsIn (wr.drewN nq) A2 out) := fun nq => by
                have := (st.bel (b_drewN (Below.refl _ _) nq)).told
                rw [HNO.out] at this
                exact this.atsIn (by omega)
              have CA : Hid (∀ nq, AtsIn (wr.drewN nq) ca cs) := fun nq => h3.below (b_drewN st.below nq)
              obtain ⟨q1, hq1⟩ : ∃ q, q = !(cs.any fun y => decide (y ∉ out)) := ⟨_, rfl⟩
              obtain ⟨q2, hq2⟩ : ∃ q, q = decide (a ∈ out) := ⟨_, rfl⟩
              have ALL : Hid (∀ nq, Calls Tryd.prog 46 #[.slice A2 no c2, .slice ca cl cc] (wr.drewN nq) fun e w' => e = .returned (.bool q1) ∧ w' = wr.drewN nq) := fun nq => by
                rw [hq1]
                exact rall_any (wr.drewN nq) A2 ca no c2 cl cc out cs HNO.out HCL.out (TA.out nq) (CA.out nq)
              have HAS : Hid (∀ nq, Calls Tryd.prog 39 #[.slice A2 no c2, .int .u16 a] (wr.drewN nq) fun e w' => e = .returned (.bool q2) ∧ w' = wr.drewN nq) := fun nq => by
                rw [hq2]
                exact rhas_any (wr.drewN nq) A2 no c2 out a HNO.out (TA.out nq)
              have RD : Hid (rdy out (a, cs) = (!q2 && q1)) := by
                show _ = _
                unfold rdy
                rw [hq1, hq2]
                simp
              rw [RD.out] at SD
              clear ht hx gd h1 sdef h2 h3 hq1 hq2 RD TA CA HO2 k1'
              have di : decide ((i : Int) < (n : Int)) = true := by simp; omega
              have bi : (i : Int) < (n : Int) := by omega
              cases q1 with
              | false =>
                have SD2 : Hid (bestOf out xs (i + 1) = bestOf out xs i) := by
                  show _ = _
                  rw [SD.out]; simp
                obtain ⟨bq, hbq⟩ : ∃ bq, bq = bestOf out xs i := ⟨_, rfl⟩
                rw [← hbq] at SD2 ⊢
                clear SD hbq st
                go_wp2_with (fail)
                go_big_quiet (first | (go_at_call 46; refine Calls.quiet_of_same (ALL.out _)) | (go_at_call 39; refine Calls.quiet_of_same (HAS.out _)))
                go_wp2_with (fail)
                go_roundw
                case rel => exact ⟨i + 1, by rw [SD2.out] <;> rfl, by go_num, by omega, NB.out _⟩
                case measure => first | (simp [intOf]; done) | (simp [intOf]; omega)
              | true =>
                cases q2 with
                | true =>
                  have SD2 : Hid (bestOf out xs (i + 1) = bestOf out xs i) := by
                    show _ = _
                    rw [SD.out]; simp
                  obtain ⟨bq, hbq⟩ : ∃ bq, bq = bestOf out xs i := ⟨_, rfl⟩
                  rw [← hbq] at SD2 ⊢
                  clear SD hbq st
                  go_wp2_with (fail)
                  go_big_quiet (first | (go_at_call 46; refine Calls.quiet_of_same (ALL.out _)) | (go_at_call 39; refine Calls.quiet_of_same (HAS.out _)))
                  go_wp2_with (fail)
                  go_roundw
                  case rel => exact ⟨i + 1, by rw [SD2.out] <;> rfl, by go_num, by omega, NB.out _⟩
                  case measure => first | (simp [intOf]; done) | (simp [intOf]; omega)
                | false =>
                  cases hbo : bestOf out xs i with
                  | none =>
                    have SD2 : Hid (bestOf out xs (i + 1) = some i) := by
                      show _ = _
                      rw [SD.out, hbo]; rfl
                    clear SD hbo st
                    have e1 : bI none = -1 := rfl
                    rw [e1]
                    clear e1
                    go_wp2_with (fail)
                    go_big_quiet (first | (go_at_call 46; refine Calls.quiet_of_same (ALL.out _)) | (go_at_call 39; refine Calls.quiet_of_same (HAS.out _)))
                    go_wp2_with (fail)
                    go_roundw
                    case rel => exact ⟨i + 1, by rw [SD2.out] <;> rfl, by go_num, by omega, NB.out _⟩
                    case measure => first | (simp [intOf]; done) | (simp [intOf]; omega)
                  | some kb =>
                    have kbl := bestOf_lt _ _ _ _ hbo
                    have kbl' : kb < ts.length := by omega
                    have kbx : kb < xs.length := by omega
                    obtain ⟨g', eg, d0, _, _⟩ := st.left.at_ kbl'
                    cases eg
                    have kr := (HS.out.rep.rep kb kbl' kbx).1
                    rw [kr] at d0
                    have gd : (xs.getD kb (0, [])).1 = (xs[kb]).1 := by rw [List.getD_eq_getElem?_getD, List.getElem?_eq_getElem kbx]; rfl
                    obtain ⟨u, hu⟩ : ∃ u, u = (xs[kb]).1 := ⟨_, rfl⟩
                    rw [← hu] at d0 gd
                    have SD1 : Hid (bestOf out xs (i + 1) = if decide (a < u) = true then some i else some kb) := by
                      show _ = _
                      rw [SD.out, hbo]
                      show (if decide (a < (xs.getD kb (0, [])).1) = true then some i else some kb) = _
                      rw [gd]
                    clear SD gd hu kr hbo st
                    have e1 : bI (some kb) = (kb : Int) := rfl
                    rw [e1]
                    clear e1
                    have z0 : (kb : Int) < (n : Int) := by omega
                    have z1 : decide ((kb : Int) < 0) = false := by simp
                    by_cases hau : a < u
                    · have d1 : decide (a < u) = true := by simpa using hau
                      have SD2 : Hid (bestOf out xs (i + 1) = some i) := by
                        show _ = _
                        rw [SD1.out, if_pos d1]
                      clear SD1
                      go_wp2_with (fail)
                      go_big_quiet (first | (go_at_call 46; refine Calls.quiet_of_same (ALL.out _)) | (go_at_call 39; refine Calls.quiet_of_same (HAS.out _)))
                      go_wp2_with (fail)
                      go_roundw
                      case rel => exact ⟨i + 1, by rw [SD2.out] <;> rfl, by go_num, by omega, NB.out _⟩
                      case measure => first | (simp [intOf]; done) | (simp [intOf]; omega)
                    · have d1 : decide (a < u) = false := by simpa using hau
                      have SD2 : Hid (bestOf out xs (i + 1) = some kb) := by
                        show _ = _
                        rw [SD1.out, if_neg (by rw [d1]; decide)]
                      clear SD1
                      go_wp2_with (fail)
                      go_big_quiet (first | (go_at_call 46; refine Calls.quiet_of_same (ALL.out _)) | (go_at_call 39; refine Calls.quiet_of_same (HAS.out _)))
                      go_wp2_with (fail)
                      go_roundw
                      case rel => exact ⟨i + 1, by rw [SD2.out] <;> rfl, by go_num, by omega, NB.out _⟩
                      case measure => first | (simp [intOf]; done) | (simp [intOf]; omega)
            · obtain rfl : i = n := by omega
              have di : decide ((i : Int) < (i : Int)) = false := by simp
              have bi : ¬ (i : Int) < (i : Int) := by omega
              have ST := Lib.hid (HS.out.bel hb.out)
              have NXT := Lib.hid HO.out
              cases hbo : bestOf out xs i with
              | none =>
                have ER : Hid (r = .error (minAt xs i)) := by
                  have := HO.out
                  unfold ord at this
                  rw [if_neg (by rw [← HNX.out]; exact hx0), ← HNX.out, hbo] at this
                  exact (Option.some.inj this).symm
                have e1 : bI none = -1 := rfl
                rw [e1]
                clear hbo NXT HO
                obtain ⟨g, rfl, c0, _, _⟩ := ST.out.left.at_ (i := 0) (by rw [← HNT.out]; exact n0)
                have h0x : 0 < xs.length := by rw [← HNX.out]; exact n0
                have e0 := (ST.out.rep.rep 0 (by rw [← HNT.out]; exact n0) h0x).1
                rw [e0] at c0
                have m1 : Hid (minAt xs 1 = (xs[0]).1) := by
                  show _ = _
                  rw [minAt_succ xs 0 h0x]
                  have : minAt xs 0 = (xs[0]).1 := by unfold minAt; rw [List.getD_eq_getElem?_getD, List.getElem?_eq_getElem h0x]; rfl
                  rw [this]
                  split <;> rfl
                obtain ⟨u0, hu0⟩ : ∃ u0, u0 = (xs[0]).1 := ⟨_, rfl⟩
                rw [← hu0] at c0 m1
                clear hu0 e0 e1
                have SW := Lib.hid (ST.out)
                obtain ⟨wq, hwq⟩ : ∃ wq, wq = wr := ⟨_, rfl⟩
                subst hwq
                have n1 : 1 ≤ i := n0
                go_wp2_with (fail)
                go_loopw [9, 10] (fun p q W => ∃ j : Nat, p = .int .u16 (minAt xs j) ∧ q = .int .i64 (j : Int) ∧ 1 ≤ j ∧ j ≤ i ∧ Hid (Below wq.heap.size wq W)) (fun _ q _ => i - (intOf q).toNat)
                case atStart => exact ⟨1, by rw [m1.out], rfl, Nat.le_refl _, n1, Below.refl _ _⟩
                case round =>
                  obtain ⟨j, rfl, rfl, hj1, hj, hb2⟩ := hrel
                  by_cases hlt2 : j < i
                  · have hjx : j < xs.length := by rw [← HNX.out]; exact hlt2
                    have hjt : j < ts.length := by rw [← HNT.out]; exact hlt2
                    have st := ST.out.bel hb2.out
                    obtain ⟨g', eg, d0, _, _⟩ := st.left.at_ hjt
                    cases eg
                    have ej := (st.rep.rep j hjt hjx).1
                    rw [ej] at d0
                    have ms := Lib.hid (minAt_succ xs j hjx)
                    obtain ⟨u, hu⟩ : ∃ u, u = (xs[j]).1 := ⟨_, rfl⟩
                    rw [← hu] at d0 ms
                    clear ej hu st
                    have bj : (j : Int) < (i : Int) := by omega
                    go_wp2_with (fail)
                    go_roundw
                    case rel => exact ⟨j + 1, by rw [ms.out]; congr 1; split <;> omega, by go_num, by omega, by omega, hb2⟩
                    case measure => first | (simp [intOf]; done) | (simp [intOf]; omega)
                  · obtain rfl : j = i := by omega
                    have bj : ¬ (j : Int) < (j : Int) := by omega
                    have FIN : Hid (ROrdPost w r (.returned (.tuple #[.slice none 0 0, .int .i64 163, .int .u16 (minAt xs j)])) wr) := by
                      rw [ER.out]
                      exact ⟨b_then ST.out.below hb2.out, rfl⟩
                    go_wp2_with (fail)
                    refine bodyPost_ret (v := .tuple #[.slice none 0 0, .int .i64 163, .int .u16 (minAt xs j)]) (by simp [results, Tryd.results28, go_sem]) rfl ?_
                    exact FIN.out
              | some kb =>
                have kbl := bestOf_lt _ _ _ _ hbo
                have kbt : kb < ts.length := by rw [← HNT.out]; exact kbl
                have kbx : kb < xs.length := by rw [← HNX.out]; exact kbl
                obtain ⟨g, rfl, c0, _, _⟩ := ST.out.left.at_ kbt
                have ek := (ST.out.rep.rep kb kbt kbx).1
                rw [ek] at c0
                have gd : (xs.getD kb (0, [])).1 = (xs[kb]).1 := by rw [List.getD_eq_getElem?_getD, List.getElem?_eq_getElem kbx]; rfl
                obtain ⟨a, ha⟩ : ∃ a, a = (xs[kb]).1 := ⟨_, rfl⟩
                rw [← ha] at c0 gd
                have NX2 : Hid (ord k1 (xs.eraseIdx kb) (out ++ [a]) = some r) := by
                  have := NXT.out
                  unfold ord at this
                  rw [if_neg (by rw [← HNX.out]; exact hx0), ← HNX.out, hbo] at this
                  dsimp only at this
                  rw [gd] at this
                  exact this
                have e1 : bI (some kb) = (kb : Int) := rfl
                rw [e1]
                have z0 : (kb : Int) < (i : Int) := by omega
                have z1 : decide ((kb : Int) < 0) = false := by simp
                have RO := Lib.hid (show wr.ownsRow w.heap.size 23 1 (.slice A2 no c2) no (out.map (Value.int .u16)) by have := ST.out.told; unfold RowU at this; rw [← HNO.out] at this; exact this)
                have hbase := ST.out.below.size
                have hnol : no ≤ 1000 := by rw [HNO.out]; omega
                clear ek gd ha e1 hbo NXT hb HO
                go_wp2_with (first
                  | (at_builtin; refine wpList_append_own_at _ rfl _ _ 51 rfl w.heap.size 23 i0 _ 1 2 Tryd.underlying51 hi0 hz0 hz1 hz2 rfl (by decide) (.slice A2 no c2) no _ rfl (RO.out.alloc _) ⟨wr.heap.size, 0, none⟩ 1 1 [.int .u16 a] rfl rfl ?hnews ?hone (by simp only [maxLen]; omega) (by omega) (by simp; omega) ?_; (case hnews => exact news1 _ (heap_alloc_at _ _)); (case hone => intro u hu; simp at hu; rcases hu with rfl; rfl); intro v' W3 ho hgr _ hat; obtain ⟨g4, cap4, rfl⟩ := ownsRow_succ ho; have OH := Lib.hid ho; have GH := Lib.hid hgr; have AH := Lib.hid hat; clear ho hgr hat))
                have S3 := Lib.hid (ST.out.put HNO.out OH.out GH.out AH.out)
                have hs3 : w.heap.size ≤ W3.heap.size := S3.out.below.size
                clear OH GH AH RO HS ST
                have OWN : Hid (∀ (W : World) (g0 : Nat), W3.heap.size ≤ g0 → W.heap[g0]? = some (.cells #[] 76 (0, 0)) → W.ownsRow W3.heap.size 76 3 (.slice (some ⟨g0, 0, none⟩) 0 0) 0 []) := fun W g0 hg hh => ⟨rfl, .inr ⟨g0, 0, #[], rfl, hg, hh, Nat.le_refl _, by simp [maxLen], rfl, rfl⟩⟩
                have CEL : Hid (∀ W, Below W3.heap.size W3 W → ∀ j u, (ts.flatMap WT.cells)[j]? = some u → W.cell? ⟨g, j, none⟩ = some u) := fun W hW j u hj => by
                  have h1 := S3.out.left
                  have h' : W3.ownsRow w.heap.size 76 3 (.slice (some ⟨g, 0, none⟩) i c1) ts.length (ts.flatMap WT.cells) := h1
                  have h2 := h'.cells (g := g) rfl j u hj
                  rw [show (⟨g, 0, none⟩ : Addr).add j = ⟨g, j, none⟩ by unfold Addr.add; split <;> simp_all] at h2
                  exact keep_cell h2 hW
                have N1 : Hid (∀ W, Below W3.heap.size W3 W → ∀ ad, some (⟨g, 0, none⟩ : Addr) = some ad → ∀ j u, ((ts.take kb).flatMap WT.cells)[j]? = some u → W.cell? (ad.add j) = some u) := fun W hW ad e j u hj => by
                  cases e
                  rw [show (⟨g, 0, none⟩ : Addr).add j = ⟨g, j, none⟩ by unfold Addr.add; split <;> simp_all]
                  have e1 : ts.flatMap WT.cells = (ts.take kb).flatMap WT.cells ++ (ts.drop kb).flatMap WT.cells := by rw [← List.flatMap_append, List.take_append_drop]
                  refine CEL.out W hW j u ?_
                  rw [e1, List.getElem?_append_left (List.getElem?_eq_some_iff.1 hj).1]
                  exact hj
                have N2 : Hid (∀ W, Below W3.heap.size W3 W → ∀ ad, (if c1 = kb + 1 then some (⟨g, 0, none⟩ : Addr) else some ⟨g, (kb + 1) * 3, none⟩) = some ad → ∀ j u, ((ts.drop (kb + 1)).flatMap WT.cells)[j]? = some u → W.cell? (ad.add j) = some u) := fun W hW ad e j u hj => by
                  by_cases hce : c1 = kb + 1
                  · have hle : i ≤ c1 := (ownsRow_some (w := W3) (base := w.heap.size) (e := 76) (size := 3) (g := g) (xs := ts.flatMap WT.cells) (by have h1 := S3.out.left; unfold RowX at h1; rw [← HNT.out] at h1; exact h1)).2.2
                    rw [List.drop_eq_nil_of_le (by rw [← HNT.out]; omega)] at hj
                    simp at hj
                  rw [if_neg hce] at e
                  cases e
                  rw [show (⟨g, (kb + 1) * 3, none⟩ : Addr).add j = ⟨g, (kb + 1) * 3 + j, none⟩ by unfold Addr.add; split <;> simp_all]
                  have e1 : ts.flatMap WT.cells = (ts.take (kb + 1)).flatMap WT.cells ++ (ts.drop (kb + 1)).flatMap WT.cells := by rw [← List.flatMap_append, List.take_append_drop]
                  have e2 : ((ts.take (kb + 1)).flatMap WT.cells).length = (kb + 1) * 3 := by rw [flat3_len, List.length_take]; omega
                  refine CEL.out W hW _ u ?_
                  rw [e1, List.getElem?_append_right (by omega), e2, show (kb + 1) * 3 + j - (kb + 1) * 3 = j by omega]
                  exact hj
                have NIL2 : Hid ((if c1 = kb + 1 then some (⟨g, 0, none⟩ : Addr) else some ⟨g, (kb + 1) * 3, none⟩) = none → c1 - (kb + 1) = 0 ∧ i - (kb + 1) = 0) := fun e => by split at e <;> cases e
                have L1 := Lib.hid (show ((ts.take kb).flatMap WT.cells).length = kb * 3 by rw [flat3_len, List.length_take]; omega)
                have L2 := Lib.hid (show ((ts.drop (kb + 1)).flatMap WT.cells).length = (i - (kb + 1)) * 3 by rw [flat3_len, List.length_drop, ← HNT.out])
                have FIN : Hid (∀ (w2 : World) (g2 cap2 r2 : Nat), r2 + 1 = i → Below W3.heap.size W3 w2 → w2.ownsRow W3.heap.size 76 3 (.slice (some ⟨g2, 0, none⟩) r2 cap2) r2 ((ts.take kb).flatMap WT.cells ++ (ts.drop (kb + 1)).flatMap WT.cells) →
                    RSt w w2 (.slice (some ⟨g4, 0, none⟩) (no + 1) cap4) (.slice (some ⟨g2, 0, none⟩) r2 cap2) (out ++ [a]) (ts.eraseIdx kb) (xs.eraseIdx kb)) := fun w2 g2 cap2 r2 hr2 hb2 ho2 =>
                  S3.out.erase (g := g) HNT.out kbl hr2 hb2 ho2
                have hc1 : i ≤ c1 := (ownsRow_some (w := W3) (base := w.heap.size) (e := 76) (size := 3) (g := g) (xs := ts.flatMap WT.cells) (by have h1 := S3.out.left; unfold RowX at h1; rw [← HNT.out] at h1; exact h1)).2.2
                have hkc : kb ≤ c1 := by omega
                have z3 : (kb : Int) ≤ (c1 : Int) := by omega
                have z4 : (i : Int) ≤ (c1 : Int) := by omega
                have z5 : kb + 1 ≤ i := by omega
                have z6 : (kb : Int) + 1 ≤ (i : Int) := by omega
                clear c0
                have bz := Lib.hid (Below.refl W3.heap.size W3)
                have OW0 : Hid (((W3.alloc (.cells #[] 76)).drew).ownsRow W3.heap.size 76 3 (.slice (some ⟨W3.heap.size, 0, none⟩) 0 0) 0 []) := OWN.out _ _ (Nat.le_refl _) (heap_alloc_at W3 _)
                have BA := Lib.hid ((b_alloc bz.out (.cells #[] 76)).drew)
                have NA := Lib.hid (N1.out _ BA.out)
                have SA := Lib.hid BA.out.size
                have zw : IntKind.i64.wrap ((kb : Int) + 1) = (kb : Int) + 1 := by simp [IntKind.wrap, IntKind.bits, IntKind.signed]; omega
                have z7 : (0 : Int) ≤ (kb : Int) + 1 := by omega
                have z8 : (0 : Int) ≤ (kb : Int) := by omega
                have z9 : (kb : Int) ≤ (i : Int) := by omega
                have z10 : (kb : Int) + 1 ≤ (c1 : Int) := by omega
                go_region_held3 (fun _ => True) (trivial)
                  (first
                  | (refine step_append_own rfl _ _ 36 rfl W3.heap.size 76 i2 _ 3 56 Tryd.underlying36 hi2 hp0 hp1 hp2 rfl (by decide) W3.heap.size 0 0 [] rfl OW0.out (some ⟨g, 0, none⟩) kb c1 ((ts.take kb).flatMap WT.cells) rfl (by intro e; cases e) L1.out NA.out (wt_one _) (by simp only [maxLen]; omega) (by omega) SA.out kb (by omega) ?_
                     intro g1 cap1 w1 ho hu hat
                     have B1 := Lib.hid (below_app (base := W3.heap.size) (g := W3.heap.size) BA.out SA.out (Nat.le_refl _) hu)
                     have R1 := Lib.hid ho
                     have hg1 := (ownsRow_some ho).1
                     clear ho hu hat)
                  | (refine step_append_own rfl _ _ 36 rfl W3.heap.size 76 i2 _ 3 56 Tryd.underlying36 hi2 hp0 hp1 hp2 rfl (by decide) g1 kb cap1 _ rfl R1.out (if c1 = kb + 1 then some ⟨g, 0, none⟩ else some ⟨g, (kb + 1) * 3, none⟩) (i - (kb + 1)) (c1 - (kb + 1)) ((ts.drop (kb + 1)).flatMap WT.cells) rfl NIL2.out L2.out (N2.out _ B1.out) (wt_one _) (by simp only [maxLen]; omega) (by omega) (B1.out.size) (i - 1) (by omega) ?_
                     intro g2 cap2 w2 ho hu hat
                     have F2 := Lib.hid (FIN.out w2 g2 cap2 (i - 1) (by omega) (below_app B1.out B1.out.size hg1 hu) (by simpa only [List.append_assoc, List.nil_append] using ho))
                     clear ho hu hat))
                go_wp2_with (fail)
                go_roundw
                case rel => exact ⟨k1, out ++ [a], ts.eraseIdx kb, xs.eraseIdx kb, NX2, F2, by rw [List.length_eraseIdx_of_lt kbx]; omega, by rw [List.length_append, List.length_eraseIdx_of_lt kbx]; simp; omega⟩
                case measure => first | (simp [vlen]; done) | (simp [vlen]; omega)
end Go.Proofs.YtabeljpnmmfpgaaDoor
