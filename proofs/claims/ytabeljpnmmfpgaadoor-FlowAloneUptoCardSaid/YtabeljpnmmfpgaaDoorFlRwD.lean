/-
  The reference's flow: Leads, with.
  The reference's word: its state, and what a round does to it.
-/
import Derived.Deep.AppendLies
import Derived.Test.YtabeljpnmmfpgaaDoorFlRwB
import Derived.Test.YtabeljpnmmfpgaaDoorFlRefA
import Derived.Test.YtabeljpnmmfpgaaDoorFlPln
namespace Go.Proofs.YtabeljpnmmfpgaaDoor
open Go.RowKit Go.MapKept Go.Maps Go.Sort
set_option linter.unusedVariables false
set_option linter.unusedSimpArgs false

set_option maxRecDepth 100000 in
set_option maxHeartbeats 4000000 in
theorem rleads_any (w : World) (x : FI) : Calls Tryd.prog 63 #[x.val] w fun e w' => ∃ v, e = .returned v ∧ RowU w' w.heap.size v (leadsOf x) ∧ Below w.heap.size w w' := by
  obtain ⟨a, o, p, d, n⟩ := x
  unfold FI.val leadsOf
  dsimp only
  have hc : o = 4 ∨ o = 5 ∨ o = 7 ∨ o = 8 ∨ o = 11 ∨ (o ≠ 4 ∧ o ≠ 5 ∧ o ≠ 7 ∧ o ≠ 8 ∧ o ≠ 11) := by omega
  rcases hc with rfl | rfl | rfl | rfl | rfl | ⟨n4, n5, n7, n8, n11⟩
  · go_enter Tryd.func63, Tryd.ntmps63
    go_wp2
    go_ret
    exact ⟨_, rfl, RowU.lit1 w _ p [] (by simp), b_alloc (b_alloc (Below.refl _ _) _) _⟩
  · go_enter Tryd.func63, Tryd.ntmps63
    go_wp2
    go_ret
    exact ⟨_, rfl, RowU.lit1 w _ n [p] (by simp), b_alloc (b_alloc (Below.refl _ _) _) _⟩
  · go_enter Tryd.func63, Tryd.ntmps63
    go_wp2
    go_ret
    exact ⟨_, rfl, RowU.lit1 w _ n [p] (by simp), b_alloc (b_alloc (Below.refl _ _) _) _⟩
  · go_enter Tryd.func63, Tryd.ntmps63
    go_wp2
    go_ret
    exact ⟨_, rfl, RowU.nil _ _, b_alloc (Below.refl _ _) _⟩
  · go_enter Tryd.func63, Tryd.ntmps63
    go_wp2
    go_ret
    exact ⟨_, rfl, RowU.nil _ _, b_alloc (Below.refl _ _) _⟩
  · rw [if_neg n4, if_neg (by omega), if_neg (by omega)]
    have m4 : (o == 4) = false := by simp [n4]
    have m5 : (o == 5) = false := by simp [n5]
    have m7 : (o == 7) = false := by simp [n7]
    have m8 : (o == 8) = false := by simp [n8]
    have m11 : (o == 11) = false := by simp [n11]
    clear n4 n5 n7 n8 n11
    go_enter Tryd.func63, Tryd.ntmps63
    go_wp2
    go_ret
    exact ⟨_, rfl, RowU.lit1 w _ n [] (by simp), b_alloc (b_alloc (Below.refl _ _) _) _⟩
/-! ### a set as a list that rises -/
theorem ins_in {x : Int} : ∀ {l : List Int}, l.Pairwise (fun a b => a < b) → x ∈ l → ins x l = l
  | y :: l, h, hx => by
    obtain ⟨h1, h2⟩ := List.pairwise_cons.1 h
    unfold ins
    rcases List.mem_cons.1 hx with rfl | hx
    · rw [if_neg (by omega), if_pos rfl]
    · have := h1 x hx
      rw [if_neg (by omega), if_neg (by omega), ins_in h2 hx]
/-- x among l, at a place. -/
def mid (l : List Int) (x : Int) (i : Nat) : List Int := l.take i ++ x :: l.drop i
theorem mid_len (l : List Int) (x : Int) (i : Nat) (hi : i ≤ l.length) : (mid l x i).length = l.length + 1 := by simp [mid]; omega
theorem mid_end (l : List Int) (x : Int) : mid l x l.length = l ++ [x] := by simp [mid]
theorem mid_at {l : List Int} {x : Int} {i : Nat} (hi : i ≤ l.length) : (mid l x i)[i]'(by rw [mid_len l x i hi]; omega) = x := by
  unfold mid
  rw [List.getElem_append_right (by simp; omega)]
  simp [Nat.min_eq_left hi]
theorem mid_pre {l : List Int} {x : Int} {i : Nat} (hi : i + 1 ≤ l.length) : (mid l x (i + 1))[i]'(by rw [mid_len l x _ hi]; omega) = l[i] := by
  unfold mid
  rw [List.getElem_append_left (by simp; omega)]
  simp
theorem mid_swap {l : List Int} {x : Int} {i : Nat} (hi : i + 1 ≤ l.length) : ((mid l x (i + 1)).set i x).set (i + 1) l[i] = mid l x i := by
  unfold mid
  have h1 : (l.take (i + 1)).length = i + 1 := by simp; omega
  have h2 : (l.take i).length = i := by simp; omega
  rw [← List.take_append_getElem (show i < l.length by omega), List.append_assoc, List.set_append_right _ _ (by omega), h2, Nat.sub_self, List.set_append_right _ _ (by omega), h2, show i + 1 - i = 1 by omega, List.drop_eq_getElem_cons (show i < l.length by omega)]
  rfl
theorem ins_mid {x : Int} : ∀ {l : List Int} {i : Nat}, i ≤ l.length → (∀ (j : Nat) (hj : j < l.length), j < i → l[j] < x) → (∀ (j : Nat) (hj : j < l.length), i ≤ j → x < l[j]) → ins x l = mid l x i
  | [], i, hi, _, _ => by
    have : i = 0 := by simpa using hi
    subst this; rfl
  | y :: l, 0, _, _, h2 => by
    have := h2 0 (by simp) (Nat.le_refl _)
    have : x < y := this
    unfold ins mid
    rw [if_pos this]; rfl
  | y :: l, i + 1, hi, h1, h2 => by
    have hy : y < x := h1 0 (by simp) (by omega)
    have ih := ins_mid (x := x) (l := l) (i := i) (by simpa using hi) (fun j hj hlt => by have := h1 (j + 1) (by simpa using hj) (by omega); simpa using this) (fun j hj hle => by have := h2 (j + 1) (by simpa using hj) (by omega); simpa using this)
    unfold ins
    rw [if_neg (by omega), if_neg (by omega), ih]
    simp [mid]
theorem own_set1 {w : World} {base g n c i : Nat} {ss : List Int} {u : Int} (h : RowU w base (.slice (some ⟨g, 0, none⟩) n c) ss) (hi : i < ss.length) : RowU (w.setCell ⟨g, i, none⟩ (.int .u16 u)) base (.slice (some ⟨g, 0, none⟩) n c) (ss.set i u) := by
  have hn : n = ss.length := by
    rcases h.2 with ⟨e1, _⟩ | ⟨g', cap, cur, e1, _⟩
    · cases e1
    · injection e1
  subst hn
  obtain ⟨h1, h2⟩ := h
  unfold RowU
  rw [List.length_set]
  refine ⟨by simp, .inr ?_⟩
  rcases h2 with ⟨e, _⟩ | ⟨g', cap, cur, e, hg, hh, k1, k2, k3, k4⟩
  · cases e
  · cases e
    refine ⟨g, c, cur.setIfInBounds i (.int .u16 u), rfl, hg, heap_set_cell hh _ _, k1, k2, by simpa using k3, ?_⟩
    rw [Array.toList_setIfInBounds, List.take_set, k4, List.map_set]
theorem RowU.free {w : World} {base g n c : Nat} {ss : List Int} (h : RowU w base (.slice (some ⟨g, 0, none⟩) n c) ss) (i : Nat) : w.frozen? ⟨g, i, none⟩ = false := by
  rcases h.2 with ⟨e1, _⟩ | ⟨g', cap', cur, e1, _, hh, _⟩
  · cases e1
  · injection e1 with e1 _ _
    injection e1 with e1
    injection e1 with e1
    subst e1
    exact free_of hh _
theorem u_drewN {a b : World} {S : Nat → Prop} (h : Upd a b S) (n : Nat) : Upd a (b.drewN n) S := ⟨h.os, h.tape, h.output, h.size, h.block⟩
/-- What with leaves: the list with x, in the same block or in a new one. -/
def WithPost (w : World) (base : Nat) (v : Value) (l : List Int) (x : Int) (e : Ending) (w' : World) : Prop := ∃ v', e = .returned v' ∧ RowU w' base v' (ins x l) ∧ Upd w w' (fun k => some k = v.ownBlock) ∧ (v'.ownBlock = v.ownBlock ∨ ∃ b, v'.ownBlock = some b ∧ w.heap.size ≤ b)

set_option maxRecDepth 100000 in
set_option maxHeartbeats 4000000 in
theorem rwith_any (w : World) (base : Nat) (v : Value) (l : List Int) (x : Int) (h : RowU w base v l) (hs : l.Pairwise (fun a b => a < b)) (hl : l.length ≤ 1000000) (hb : base ≤ w.heap.size) :
    Calls Tryd.prog 37 #[v, .int .u16 x] w fun e w' => WithPost w base v l x e w' := by
  obtain ⟨A, c, rfl⟩ := h.slice
  have RH := Lib.hid (rhas_any w A l.length c l x rfl (h.atsIn (by omega)))
  have HR := Lib.hid h
  have HS := Lib.hid hs
  obtain ⟨n, hn⟩ : ∃ n, n = l.length := ⟨_, rfl⟩
  rw [← hn] at RH HR hl ⊢
  have HN := Lib.hid hn
  obtain ⟨i0, hi0, hz0, hz1, hz2⟩ := info_parts infoU16
  clear h hs hn
  by_cases hx : x ∈ l
  · have dx : decide (x ∈ l) = true := decide_eq_true hx
    rw [dx] at RH
    have FIN : Hid (WithPost w base (.slice A n c) l x (.returned (.slice A n c)) w) := ⟨_, rfl, by rw [ins_in HS.out hx]; exact HR.out, Upd.refl _ _, .inl rfl⟩
    clear hx dx
    go_enter Tryd.func37, Tryd.ntmps37
    go_wp2_with (fail)
    refine RH.out.mono ?_
    rintro e w' ⟨rfl, rfl⟩
    go_wp2_with (fail)
    go_ret
    exact FIN.out
  · have dx : decide (x ∈ l) = false := decide_eq_false hx
    rw [dx] at RH
    have NX := Lib.hid hx
    clear hx dx
    go_enter Tryd.func37, Tryd.ntmps37
    go_wp2_with (fail)
    refine RH.out.mono ?_
    rintro e w' ⟨rfl, rfl⟩
    have RO := Lib.hid (show (w'.alloc (.cells #[.int .u16 x] 23)).ownsRow base 23 1 (.slice A n c) n (l.map (Value.int .u16)) by
      have := HR.out
      unfold RowU at this
      rw [← HN.out] at this
      exact this.alloc _)
    have START : Hid (∀ (g cap : Nat) (W2 : World), W2.ownsRow base 23 1 (.slice (some ⟨g, 0, none⟩) (n + 1) cap) (n + 1) (l.map (Value.int .u16) ++ [.int .u16 x]) → (w'.alloc (.cells #[.int .u16 x] 23)).grownBy W2 (Value.slice A n c).ownBlock →
        ((Value.slice (some ⟨g, 0, none⟩) (n + 1) cap).ownBlock = (Value.slice A n c).ownBlock ∨ (Value.slice (some ⟨g, 0, none⟩) (n + 1) cap).ownBlock = some (w'.alloc (.cells #[.int .u16 x] 23)).heap.size) →
        RowU W2 base (.slice (some ⟨g, 0, none⟩) (n + 1) cap) (mid l x n) ∧ Upd w' W2 (fun k => some k = (Value.slice A n c).ownBlock) ∧ (some g = (Value.slice A n c).ownBlock ∨ w'.heap.size ≤ g)) := fun g cap W2 ho hg hat => by
      have hu := Upd.of_grown hg
      refine ⟨?_, (((Upd.refl w' _).alloc _).trans hu (fun i _ h => h)), ?_⟩
      · unfold RowU
        rw [mid_len l x n (Nat.le_of_eq HN.out), ← HN.out, show n = l.length from HN.out, mid_end, List.map_append, ← HN.out]
        exact ho
      · rcases hat with hat | hat
        · exact .inl hat
        · have e2 : g = (w'.alloc (.cells #[.int .u16 x] 23)).heap.size := by
            have e3 : some g = _ := hat
            exact Option.some.inj e3
          refine .inr ?_
          simp at e2; omega
    go_wp2_with (first
      | (at_builtin; refine wpList_append_own_at _ rfl _ _ 51 rfl base 23 i0 _ 1 2 Tryd.underlying51 hi0 hz0 hz1 hz2 rfl (by decide) (.slice A n c) n _ rfl RO.out ⟨w'.heap.size, 0, none⟩ 1 1 [.int .u16 x] rfl rfl ?hnews ?hone (by simp only [maxLen]; omega) (by omega) (by simp; omega) ?_; (case hnews => exact news1 _ (heap_alloc_at _ _)); (case hone => intro u hu; simp at hu; rcases hu with rfl; rfl); intro v' W2 ho hgr _ hat; obtain ⟨g, cap, rfl⟩ := ownsRow_succ ho; have ST := Lib.hid (START.out g cap W2 ho hgr hat); clear ho hgr hat START RO))
    go_loopw [5] (fun i wr => ∃ k : Nat, k ≤ n ∧ i = .int .i64 (k : Int) ∧ Hid (RowU wr base (.slice (some ⟨g, 0, none⟩) (n + 1) cap) (mid l x k) ∧ Upd w' wr (fun q => some q = (Value.slice A n c).ownBlock) ∧ (some g = (Value.slice A n c).ownBlock ∨ w'.heap.size ≤ g) ∧ (∀ (j : Nat) (hj : j < l.length), k ≤ j → x < l[j]))) (fun i _ => (intOf i).toNat)
    case atStart => exact ⟨n, Nat.le_refl _, by go_num, ST.out.1, ST.out.2.1, ST.out.2.2, fun j hj h => by have := HN.out; omega⟩
    case round =>
      clear ST
      obtain ⟨k, hk, rfl, hR⟩ := hrel
      have FINK : Hid ((∀ (j : Nat) (hj : j < l.length), j < k → l[j] < x) → ∀ nq, WithPost w' base (.slice A n c) l x (.returned (.slice (some ⟨g, 0, none⟩) (n + 1) cap)) (wr.drewN nq)) := fun hlo nq => by
        refine ⟨_, rfl, ?_, u_drewN hR.out.2.1 nq, ?_⟩
        · rw [ins_mid (by have := HN.out; omega) hlo hR.out.2.2.2]
          exact hR.out.1
        · rcases hR.out.2.2.1 with h | h
          · exact .inl h
          · exact .inr ⟨g, rfl, h⟩
      by_cases hk0 : k = 0
      · subst hk0
        have F := Lib.hid (FINK.out (fun j hj h => absurd h (Nat.not_lt_zero _)))
        clear FINK hR
        go_wp2_with (fail)
        go_quiet (fail)
        go_wp2_with (fail)
        go_ret
        exact F.out nq
      · obtain ⟨i, rfl⟩ : ∃ i, k = i + 1 := ⟨k - 1, by omega⟩
        have hil : i + 1 ≤ l.length := by have := HN.out; omega
        obtain ⟨g', eg, c0⟩ := hR.out.1.at_ (i := i) (by rw [mid_len l x _ hil]; omega)
        cases eg
        obtain ⟨g', eg, c1⟩ := hR.out.1.at_ (i := i + 1) (by rw [mid_len l x _ hil]; omega)
        cases eg
        rw [mid_pre hil] at c0
        rw [mid_at hil] at c1
        obtain ⟨y, hy⟩ : ∃ y, y = l[i]'(by omega) := ⟨_, rfl⟩
        rw [← hy] at c0
        have HY := Lib.hid hy
        clear hy
        have F0 := hR.out.1.free i
        have F1 := hR.out.1.free (i + 1)
        have z0 : (0 : Int) < (i : Int) + 1 := by omega
        have z1 : (i : Int) + 1 < (n : Int) + 1 := by omega
        have z2 : IntKind.i64.wrap ((i : Int) + 1 - 1) = (i : Int) := by simp [IntKind.wrap, IntKind.bits, IntKind.signed]; omega
        have SW := Lib.hid (mid_swap (x := x) hil)
        rw [← HY.out] at SW
        by_cases hyx : x < y
        · have dyx : decide (x < y) = true := by simpa using hyx
          have NXT : Hid (∀ nq, RowU (((wr.drewN nq).drew.setCell ⟨g, i, none⟩ (.int .u16 x)).setCell ⟨g, i + 1, none⟩ (.int .u16 y)) base (.slice (some ⟨g, 0, none⟩) (n + 1) cap) (mid l x i) ∧ Upd w' (((wr.drewN nq).drew.setCell ⟨g, i, none⟩ (.int .u16 x)).setCell ⟨g, i + 1, none⟩ (.int .u16 y)) (fun q => some q = (Value.slice A n c).ownBlock) ∧ (some g = (Value.slice A n c).ownBlock ∨ w'.heap.size ≤ g) ∧ (∀ (j : Nat) (hj : j < l.length), i ≤ j → x < l[j])) := fun nq => by
            have h0 : RowU ((wr.drewN nq).drew) base (.slice (some ⟨g, 0, none⟩) (n + 1) cap) (mid l x (i + 1)) := hR.out.1
            have h1 := own_set1 (u := x) h0 (i := i) (by rw [mid_len l x _ hil]; omega)
            have h2 := own_set1 (u := y) h1 (i := i + 1) (by rw [List.length_set, mid_len l x _ hil]; omega)
            rw [SW.out] at h2
            refine ⟨h2, ?_, hR.out.2.2.1, fun j hj hle => ?_⟩
            · have hu : Upd w' ((wr.drewN nq).drew) (fun q => some q = (Value.slice A n c).ownBlock) := (u_drewN hR.out.2.1 nq).drew
              exact (hu.setCell (p := ⟨g, i, none⟩) (fun hlt => by rcases hR.out.2.2.1 with h | h; exact h; exact absurd hlt (by show ¬ g < _; omega)) _).setCell (p := ⟨g, i + 1, none⟩) (fun hlt => by rcases hR.out.2.2.1 with h | h; exact h; exact absurd hlt (by show ¬ g < _; omega)) _
            · by_cases e : j = i
              · subst e; rw [← HY.out]; exact hyx
              · exact hR.out.2.2.2 j hj (by omega)
          clear FINK hR
          go_wp2_with (fail)
          go_quiet (fail)
          obtain ⟨W1, hW1⟩ : ∃ x, x = wr.drewN nq := ⟨_, rfl⟩
          have c0' : W1.cell? ⟨g, i, none⟩ = some (.int .u16 y) := by rw [hW1]; exact c0
          have c1' : W1.cell? ⟨g, i + 1, none⟩ = some (.int .u16 x) := by rw [hW1]; exact c1
          have F0' : W1.frozen? ⟨g, i, none⟩ = false := by rw [hW1]; exact F0
          have F1' : W1.frozen? ⟨g, i + 1, none⟩ = false := by rw [hW1]; exact F1
          have NXT' := Lib.hid (NXT.out nq)
          rw [← hW1] at NXT' ⊢
          clear NXT hW1 c0 c1 F0 F1
          go_wp2_with (fail)
          go_region
          all_goals
            go_wp2_with (fail)
            go_roundw
            case rel => exact ⟨i, by omega, by go_num, NXT'⟩
            case measure => first | (simp [intOf]; done) | (simp [intOf]; omega)
        · have dyx : decide (x < y) = false := by simpa using hyx
          have F : Hid (∀ nq, WithPost w' base (.slice A n c) l x (.returned (.slice (some ⟨g, 0, none⟩) (n + 1) cap)) (wr.drewN nq)) := FINK.out (fun j hj hlt => by
            have hne : ∀ (j : Nat) (hj : j < l.length), l[j] ≠ x := fun j hj e => NX.out (by rw [← e]; exact List.getElem_mem hj)
            have hli : l[i]'(by omega) < x := by
              have h1 := hne i (by omega)
              have h2 := HY.out
              omega
            by_cases e : j = i
            · subst e; exact hli
            · have := List.pairwise_iff_getElem.1 HS.out j i hj (by omega) (by omega)
              omega)
          clear FINK hR
          go_wp2_with (fail)
          go_quiet (fail)
          go_wp2_with (fail)
          go_ret
          exact F.out nq
end Go.Proofs.YtabeljpnmmfpgaaDoor

namespace Go.Proofs.YtabeljpnmmfpgaaDoor
open Go.RowKit Go.MapKept Go.Maps Go.Sort
set_option linter.unusedVariables false
set_option linter.unusedSimpArgs false

/-- A row of the reference's instructions. -/
def RowJ (w : World) (base : Nat) (v : Value) (l : List FI) : Prop := w.ownsRow base 91 5 v l.length (l.flatMap FI.cells)
/-- A word while it is gone along. -/
structure RWS (w W : World) (R X : Nat) (cw : Int) (vo vi vc : Value) (o : List Int) (f : List FI) (c : List Int) : Prop where
  below : Below w.heap.size w W
  lo : w.heap.size ≤ R ∧ w.heap.size ≤ X ∧ R ≠ X
  res : W.heap[R]? = some (.cells #[.int .u16 0, .slice none 0 0, .slice none 0 0] 76 (0, 0))
  box : W.heap[X]? = some (.cells #[.int .u16 cw, vi, vc] 76 (0, 0))
  ro : RowU W w.heap.size vo o
  ri : RowJ W w.heap.size vi f
  rc : RowU W w.heap.size vc c
  dO : ∀ k, vo.ownBlock = some k → k ≠ R ∧ k ≠ X ∧ vi.ownBlock ≠ some k ∧ vc.ownBlock ≠ some k
  dI : ∀ k, vi.ownBlock = some k → k ≠ R ∧ k ≠ X ∧ vc.ownBlock ≠ some k
  dC : ∀ k, vc.ownBlock = some k → k ≠ R ∧ k ≠ X
section
variable {w W W' : World} {R X : Nat} {cw : Int} {vo vi vc v' : Value} {o o' : List Int} {f f' : List FI} {c c' : List Int}
theorem RWS.bel (h : RWS w W R X cw vo vi vc o f c) (hb : Below W.heap.size W W') : RWS w W' R X cw vo vi vc o f c :=
  ⟨b_then h.below hb, h.lo, (hb.block R (heap_lt h.res)).trans h.res, (hb.block X (heap_lt h.box)).trans h.box, h.ro.below hb, ownsRow_keep h.ri (fun k hk => hb.block k (ownsRow_own h.ri k hk).1), h.rc.below hb, h.dO, h.dI, h.dC⟩
/-- The open list is another. -/
theorem RWS.setO (h : RWS w W R X cw vo vi vc o f c) (hu : Upd W W' (fun k => some k = vo.ownBlock)) (hr : RowU W' w.heap.size v' o') (hn : v'.ownBlock = vo.ownBlock ∨ ∃ b, v'.ownBlock = some b ∧ W.heap.size ≤ b) : RWS w W' R X cw v' vi vc o' f c := by
  have kR : W'.heap[R]? = W.heap[R]? := hu.block R (heap_lt h.res) (fun e => (h.dO R e.symm).1 rfl)
  have kX : W'.heap[X]? = W.heap[X]? := hu.block X (heap_lt h.box) (fun e => (h.dO X e.symm).2.1 rfl)
  have kI : ∀ k, vi.ownBlock = some k → W'.heap[k]? = W.heap[k]? := fun k hk => hu.block k (ownsRow_own h.ri k hk).1 (fun e => (h.dO k e.symm).2.2.1 hk)
  have kC : ∀ k, vc.ownBlock = some k → W'.heap[k]? = W.heap[k]? := fun k hk => hu.block k (ownsRow_own h.rc k hk).1 (fun e => (h.dO k e.symm).2.2.2 hk)
  refine ⟨h.below.trans (hu.below h.below.size (fun i hi => (ownsRow_own h.ro i hi.symm).2)), h.lo, kR.trans h.res, kX.trans h.box, hr, ownsRow_keep h.ri kI, h.rc.move kC, fun k hk => ?_, h.dI, h.dC⟩
  rcases hn with hn | ⟨b, hn, hb⟩
  · exact h.dO k (by rw [← hn]; exact hk)
  · rw [hn] at hk
    have e := Option.some.inj hk
    subst e
    refine ⟨fun e => ?_, fun e => ?_, fun e => ?_, fun e => ?_⟩
    · have := heap_lt h.res; omega
    · have := heap_lt h.box; omega
    · have := (ownsRow_own h.ri _ e).1; omega
    · have := (ownsRow_own h.rc _ e).1; omega
/-- The instructions are others: written in the word. -/
theorem RWS.setI (h : RWS w W R X cw vo vi vc o f c) (hu : Upd W W' (fun k => some k = vi.ownBlock)) (hr : RowJ W' w.heap.size v' f') (hn : v'.ownBlock = vi.ownBlock ∨ ∃ b, v'.ownBlock = some b ∧ W.heap.size ≤ b) :
    RWS w (W'.setCell ⟨X, 1, none⟩ v') R X cw vo v' vc o f' c := by
  have kR : W'.heap[R]? = W.heap[R]? := hu.block R (heap_lt h.res) (fun e => (h.dI R e.symm).1 rfl)
  have kX : W'.heap[X]? = W.heap[X]? := hu.block X (heap_lt h.box) (fun e => (h.dI X e.symm).2.1 rfl)
  have kO : ∀ k, vo.ownBlock = some k → W'.heap[k]? = W.heap[k]? := fun k hk => hu.block k (ownsRow_own h.ro k hk).1 (fun e => (h.dO k hk).2.2.1 e.symm)
  have kC : ∀ k, vc.ownBlock = some k → W'.heap[k]? = W.heap[k]? := fun k hk => hu.block k (ownsRow_own h.rc k hk).1 (fun e => (h.dI k e.symm).2.2 hk)
  have nX : ∀ k, v'.ownBlock = some k → k ≠ X ∧ k ≠ R := fun k hk => by
    rcases hn with hn | ⟨b, hn, hb⟩
    · have := h.dI k (by rw [← hn]; exact hk); exact ⟨this.2.1, this.1⟩
    · rw [hn] at hk
      have e := Option.some.inj hk
      subst e
      have := heap_lt h.res; have := heap_lt h.box; omega
  have far : ∀ k, k ≠ X → (W'.setCell ⟨X, 1, none⟩ v').heap[k]? = W'.heap[k]? := fun k hk => heap_set_far hk
  refine ⟨(h.below.trans (hu.below h.below.size (fun i hi => (ownsRow_own h.ri i hi.symm).2))).setCell (p := ⟨X, 1, none⟩) h.lo.2.1 _, h.lo, (far R h.lo.2.2).trans (kR.trans h.res), heap_set_cell (kX.trans h.box) 1 _, ?_, ?_, ?_, fun k hk => ?_, fun k hk => ?_, h.dC⟩
  · exact h.ro.move (fun k hk => (far k (h.dO k hk).2.1).trans (kO k hk))
  · exact ownsRow_keep hr (fun k hk => far k (nX k hk).1)
  · exact h.rc.move (fun k hk => (far k (h.dC k hk).2).trans (kC k hk))
  · have q := h.dO k hk
    refine ⟨q.1, q.2.1, fun e => ?_, q.2.2.2⟩
    rcases hn with hn | ⟨b, hn, hb⟩
    · rw [hn] at e; exact q.2.2.1 e
    · rw [hn] at e
      have e := Option.some.inj e
      have := (ownsRow_own h.ro k hk).1; omega
  · refine ⟨(nX k hk).2, (nX k hk).1, fun e => ?_⟩
    rcases hn with hn | ⟨b, hn, hb⟩
    · rw [hn] at hk; exact (h.dI k hk).2.2 e
    · rw [hn] at hk
      have e2 := Option.some.inj hk
      have := (ownsRow_own h.rc k e).1; omega
/-- The calls are others: written in the word. -/
theorem RWS.setC (h : RWS w W R X cw vo vi vc o f c) (hu : Upd W W' (fun k => some k = vc.ownBlock)) (hr : RowU W' w.heap.size v' c') (hn : v'.ownBlock = vc.ownBlock ∨ ∃ b, v'.ownBlock = some b ∧ W.heap.size ≤ b) :
    RWS w (W'.setCell ⟨X, 2, none⟩ v') R X cw vo vi v' o f c' := by
  have kR : W'.heap[R]? = W.heap[R]? := hu.block R (heap_lt h.res) (fun e => (h.dC R e.symm).1 rfl)
  have kX : W'.heap[X]? = W.heap[X]? := hu.block X (heap_lt h.box) (fun e => (h.dC X e.symm).2 rfl)
  have kO : ∀ k, vo.ownBlock = some k → W'.heap[k]? = W.heap[k]? := fun k hk => hu.block k (ownsRow_own h.ro k hk).1 (fun e => (h.dO k hk).2.2.2 e.symm)
  have kI : ∀ k, vi.ownBlock = some k → W'.heap[k]? = W.heap[k]? := fun k hk => hu.block k (ownsRow_own h.ri k hk).1 (fun e => (h.dI k hk).2.2 e.symm)
  have nX : ∀ k, v'.ownBlock = some k → k ≠ X ∧ k ≠ R := fun k hk => by
    rcases hn with hn | ⟨b, hn, hb⟩
    · have := h.dC k (by rw [← hn]; exact hk); exact ⟨this.2, this.1⟩
    · rw [hn] at hk
      have e := Option.some.inj hk
      subst e
      have := heap_lt h.res; have := heap_lt h.box; omega
  have far : ∀ k, k ≠ X → (W'.setCell ⟨X, 2, none⟩ v').heap[k]? = W'.heap[k]? := fun k hk => heap_set_far hk
  refine ⟨(h.below.trans (hu.below h.below.size (fun i hi => (ownsRow_own h.rc i hi.symm).2))).setCell (p := ⟨X, 2, none⟩) h.lo.2.1 _, h.lo, (far R h.lo.2.2).trans (kR.trans h.res), heap_set_cell (kX.trans h.box) 2 _, ?_, ?_, ?_, fun k hk => ?_, fun k hk => ?_, fun k hk => ?_⟩
  · exact h.ro.move (fun k hk => (far k (h.dO k hk).2.1).trans (kO k hk))
  · exact ownsRow_keep h.ri (fun k hk => (far k (h.dI k hk).2.1).trans (kI k hk))
  · exact hr.move (fun k hk => far k (nX k hk).1)
  · have q := h.dO k hk
    refine ⟨q.1, q.2.1, q.2.2.1, fun e => ?_⟩
    rcases hn with hn | ⟨b, hn, hb⟩
    · rw [hn] at e; exact q.2.2.2 e
    · rw [hn] at e
      have e := Option.some.inj e
      have := (ownsRow_own h.ro k hk).1; omega
  · have q := h.dI k hk
    refine ⟨q.1, q.2.1, fun e => ?_⟩
    rcases hn with hn | ⟨b, hn, hb⟩
    · rw [hn] at e; exact q.2.2 e
    · rw [hn] at e
      have e := Option.some.inj e
      have := (ownsRow_own h.ri k hk).1; omega
  · exact ⟨(nX k hk).2, (nX k hk).1⟩
/-- The instructions' own row is written within. -/
theorem RWS.inI (h : RWS w W R X cw vo vi vc o f c) (hu : Upd W W' (fun k => some k = vi.ownBlock)) (hr : RowJ W' w.heap.size vi f') : RWS w W' R X cw vo vi vc o f' c := by
  have kR : W'.heap[R]? = W.heap[R]? := hu.block R (heap_lt h.res) (fun e => (h.dI R e.symm).1 rfl)
  have kX : W'.heap[X]? = W.heap[X]? := hu.block X (heap_lt h.box) (fun e => (h.dI X e.symm).2.1 rfl)
  have kO : ∀ k, vo.ownBlock = some k → W'.heap[k]? = W.heap[k]? := fun k hk => hu.block k (ownsRow_own h.ro k hk).1 (fun e => (h.dO k hk).2.2.1 e.symm)
  have kC : ∀ k, vc.ownBlock = some k → W'.heap[k]? = W.heap[k]? := fun k hk => hu.block k (ownsRow_own h.rc k hk).1 (fun e => (h.dI k e.symm).2.2 hk)
  exact ⟨h.below.trans (hu.below h.below.size (fun i hi => (ownsRow_own h.ri i hi.symm).2)), h.lo, kR.trans h.res, kX.trans h.box, h.ro.move kO, hr, h.rc.move kC, h.dO, h.dI, h.dC⟩
end

/-! ### an instruction put into its place -/
def midF (l : List FI) (d : FI) (i : Nat) : List FI := l.take i ++ d :: l.drop i
theorem midF_len (l : List FI) (d : FI) (i : Nat) (hi : i ≤ l.length) : (midF l d i).length = l.length + 1 := by simp [midF]; omega
theorem midF_end (l : List FI) (d : FI) : midF l d l.length = l ++ [d] := by simp [midF]
theorem midF_pre {l : List FI} {d : FI} {i : Nat} (hi : i + 1 ≤ l.length) : (midF l d (i + 1))[i]'(by rw [midF_len l d _ hi]; omega) = l[i] := by
  unfold midF
  rw [List.getElem_append_left (by simp; omega)]
  simp
/-- One instruction moved up. -/
theorem midF_up {l : List FI} {d : FI} {i : Nat} (hi : i + 1 ≤ l.length) : (midF l d (i + 1)).set (i + 1) l[i] = midF l l[i] i := by
  unfold midF
  have h1 : (l.take (i + 1)).length = i + 1 := by simp; omega
  rw [List.set_append_right _ _ (by omega), h1, Nat.sub_self, List.set_cons_zero, List.drop_eq_getElem_cons (show i < l.length by omega), ← List.take_append_getElem (show i < l.length by omega), List.append_assoc]
  rfl
theorem midF_put {l : List FI} {d x : FI} {i : Nat} (hi : i ≤ l.length) : (midF l d i).set i x = midF l x i := by
  unfold midF
  have h1 : (l.take i).length = i := by simp; omega
  rw [List.set_append_right _ _ (by omega), h1, Nat.sub_self, List.set_cons_zero]
theorem insI_mid {x : FI} : ∀ {l : List FI} {i : Nat}, i ≤ l.length → (∀ (j : Nat) (hj : j < l.length), j < i → (l[j]).at_ < x.at_) → (∀ (j : Nat) (hj : j < l.length), i ≤ j → x.at_ < (l[j]).at_) → insI x l = midF l x i
  | [], i, hi, _, _ => by
    have : i = 0 := by simpa using hi
    subst this; rfl
  | y :: l, 0, _, _, h2 => by
    have : x.at_ < y.at_ := h2 0 (by simp) (Nat.le_refl _)
    unfold insI midF
    rw [if_pos this]; rfl
  | y :: l, i + 1, hi, h1, h2 => by
    have hy : y.at_ < x.at_ := h1 0 (by simp) (by omega)
    have ih := insI_mid (x := x) (l := l) (i := i) (by simpa using hi) (fun j hj hlt => by have := h1 (j + 1) (by simpa using hj) (by omega); simpa using this) (fun j hj hle => by have := h2 (j + 1) (by simpa using hj) (by omega); simpa using this)
    unfold insI
    rw [if_neg (by omega), if_neg (by omega), ih]
    simp [midF]
theorem insI_plc {x : FI} {l : List FI} (hs : l.Pairwise (fun a b => a.at_ < b.at_)) (hn : ∀ y ∈ l, y.at_ ≠ x.at_) : insI x l = midF l x (plc l x.at_) := by
  refine insI_mid (plc_le l x.at_) (fun j hj hlt => plc_lt l x.at_ j hj hlt) (fun j hj hle => ?_)
  have h0 : plc l x.at_ < l.length := by omega
  have h1 := plc_ge l x.at_ h0
  have h2 := hn _ (List.getElem_mem h0)
  by_cases e : j = plc l x.at_
  · simp only [e]; omega
  · have := List.pairwise_iff_getElem.1 hs _ j h0 hj (by omega)
    omega
theorem own_set5 {w : World} {base g n c i s : Nat} {e : TypeId} {xs : List Value} {u : Value} (h : w.ownsRow base e s (.slice (some ⟨g, 0, none⟩) n c) n xs) (hi : i < n * s) : (w.setCell ⟨g, i, none⟩ u).ownsRow base e s (.slice (some ⟨g, 0, none⟩) n c) n (xs.set i u) := by
  obtain ⟨h1, h2⟩ := h
  refine ⟨by rw [List.length_set]; exact h1, .inr ?_⟩
  rcases h2 with ⟨e, _⟩ | ⟨g', cap, cur, e, hg, hh, k1, k2, k3, k4⟩
  · cases e
  · cases e
    refine ⟨g, c, cur.setIfInBounds i u, rfl, hg, heap_set_cell hh _ _, k1, k2, by simpa using k3, ?_⟩
    rw [← k4, Array.toList_setIfInBounds, List.take_set]
theorem flat5_set : ∀ (l : List FI) (i : Nat) (hi : i < l.length) (x : FI), (l.set i x).flatMap FI.cells = (((((l.flatMap FI.cells).set (i * 5) (.int .u16 x.at_)).set (i * 5 + 1) (.int .i64 x.op)).set (i * 5 + 2) (.int .u16 x.operand)).set (i * 5 + 3) (.int .u16 x.word)).set (i * 5 + 4) (.int .u16 x.next)
  | y :: l, 0, _, x => by
    simp only [List.set_cons_zero, List.flatMap_cons]
    rfl
  | y :: l, i + 1, hi, x => by
    have h5 : y.cells.length = 5 := rfl
    simp only [List.set_cons_succ, List.flatMap_cons]
    rw [flat5_set l i (by simpa using hi) x, List.set_append_right _ _ (by omega), List.set_append_right _ _ (by omega), List.set_append_right _ _ (by omega), List.set_append_right _ _ (by omega), List.set_append_right _ _ (by omega), h5,
      show (i + 1) * 5 - 5 = i * 5 by omega, show (i + 1) * 5 + 1 - 5 = i * 5 + 1 by omega, show (i + 1) * 5 + 2 - 5 = i * 5 + 2 by omega, show (i + 1) * 5 + 3 - 5 = i * 5 + 3 by omega, show (i + 1) * 5 + 4 - 5 = i * 5 + 4 by omega]
/-- An instruction's five cells written. -/
theorem own_setJ {w : World} {base g n c i : Nat} {l : List FI} {x : FI} (h : RowJ w base (.slice (some ⟨g, 0, none⟩) n c) l) (hi : i < l.length) :
    RowJ (World.setCell (World.setCell (World.setCell (World.setCell (World.setCell w ⟨g, i * 5, none⟩ (.int .u16 x.at_)) ⟨g, i * 5 + 1, none⟩ (.int .i64 x.op)) ⟨g, i * 5 + 2, none⟩ (.int .u16 x.operand)) ⟨g, i * 5 + 3, none⟩ (.int .u16 x.word)) ⟨g, i * 5 + 4, none⟩ (.int .u16 x.next)) base (.slice (some ⟨g, 0, none⟩) n c) (l.set i x) := by
  have hn : n = l.length := by
    rcases h.2 with ⟨e1, _⟩ | ⟨g', cap, cur, e1, _⟩
    · cases e1
    · injection e1
  subst hn
  have e : (l.set i x).flatMap FI.cells = (((((l.flatMap FI.cells).set (i * 5) (.int .u16 x.at_)).set (i * 5 + 1) (.int .i64 x.op)).set (i * 5 + 2) (.int .u16 x.operand)).set (i * 5 + 3) (.int .u16 x.word)).set (i * 5 + 4) (.int .u16 x.next) := flat5_set l i hi x
  unfold RowJ
  rw [List.length_set, e]
  have h' : w.ownsRow base 91 5 (.slice (some ⟨g, 0, none⟩) l.length c) l.length (l.flatMap FI.cells) := h
  exact own_set5 (own_set5 (own_set5 (own_set5 (own_set5 h' (by omega)) (by omega)) (by omega)) (by omega)) (by omega)
end Go.Proofs.YtabeljpnmmfpgaaDoor
