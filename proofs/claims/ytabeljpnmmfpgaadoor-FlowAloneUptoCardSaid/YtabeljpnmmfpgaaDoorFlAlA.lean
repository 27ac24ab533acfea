/-
  FlowAlone: the law's mark, walked.
-/
import Derived.BigQuiet
import Derived.Deep.Cut
import Derived.Deep.OwnRows
import Derived.Test.YtabeljpnmmfpgaaDoorFlWaA
namespace Go.Proofs.YtabeljpnmmfpgaaDoor
open Go.RowKit Go.MapKept Go.Maps Go.Sort Go.Deep
set_option linter.unusedVariables false
set_option linter.unusedSimpArgs false

/-- A row of marks: which are set. -/
structure Marks (w : World) (U M : Nat) (f : Nat → Bool) : Prop where
  row : ∃ cur : Array Value, w.heap[U]? = some (.cells cur 4 (0, 0)) ∧ cur.size = M ∧ ∀ j, j < M → cur[j]? = some (.bool (f j))
theorem Marks.cell {w : World} {U M : Nat} {f : Nat → Bool} (h : Marks w U M f) {j : Nat} (hj : j < M) : w.cell? ⟨U, j, none⟩ = some (.bool (f j)) := by
  obtain ⟨cur, h1, h2, h3⟩ := h.row
  rw [cell_of h1]
  exact h3 j hj
theorem Marks.free {w : World} {U M : Nat} {f : Nat → Bool} (h : Marks w U M f) (j : Nat) : w.frozen? ⟨U, j, none⟩ = false := by
  obtain ⟨cur, h1, h2, h3⟩ := h.row
  exact free_of h1 _
theorem Marks.lt {w : World} {U M : Nat} {f : Nat → Bool} (h : Marks w U M f) : U < w.heap.size := by
  obtain ⟨cur, h1, h2, h3⟩ := h.row
  exact heap_lt h1
theorem Marks.set {w : World} {U M : Nat} {f : Nat → Bool} (h : Marks w U M f) (j : Nat) : Marks (w.setCell ⟨U, j, none⟩ (.bool true)) U M (fun i => if i = j then true else f i) := by
  obtain ⟨cur, h1, h2, h3⟩ := h.row
  refine ⟨cur.setIfInBounds j (.bool true), heap_set_cell h1 j _, by simpa using h2, fun i hi => ?_⟩
  by_cases e : i = j
  · subst e
    rw [if_pos rfl, Array.getElem?_setIfInBounds_self_of_lt (by omega)]
  · rw [if_neg e, Array.getElem?_setIfInBounds_ne (Ne.symm e)]
    exact h3 i hi
theorem Marks.keep {w W : World} {U M : Nat} {f : Nat → Bool} (h : Marks w U M f) (hk : W.heap[U]? = w.heap[U]?) : Marks W U M f := by
  obtain ⟨cur, h1, h2, h3⟩ := h.row
  exact ⟨cur, hk.trans h1, h2, h3⟩
def mk2 (a : Int) (f : Nat → Bool) : Nat → Bool := fun i => if i = a.toNat + 1 then true else if i = a.toNat then true else f i

set_option maxRecDepth 100000 in
set_option maxHeartbeats 4000000 in
theorem mark_any (w : World) (P U M : Nat) (f : Nat → Bool) (a : Int) (hP : w.cell? ⟨P, 0, none⟩ = some (.slice (some ⟨U, 0, none⟩) M M)) (hM : Marks w U M f) (hPU : P ≠ U) (hm : 66000 ≤ M) (hm2 : M ≤ 4000000) (h0 : 0 ≤ a) (h1 : a < 65536) :
    Calls Tryd.prog 40 #[.int .u16 a, .pointer (some ⟨P, 0, none⟩)] w fun e w' => e = .returned (.tuple #[]) ∧ Marks w' U M (mk2 a f) ∧ Upd w w' (fun k => k = U) := by
  obtain ⟨j, hj⟩ : ∃ j : Nat, a = (j : Int) := ⟨a.toNat, by omega⟩
  subst hj
  have MM := Lib.hid hM
  have c0 := hM.cell (j := j) (by omega)
  have c1 := hM.cell (j := j + 1) (by omega)
  have F0 := hM.free j
  have F1 := hM.free (j + 1)
  have z0 : (j : Int) < (M : Int) := by omega
  have z1 : (j : Int) + 1 < (M : Int) := by omega
  have z2 : IntKind.i64.wrap ((j : Int) + 1) = (j : Int) + 1 := by simp [IntKind.wrap, IntKind.bits, IntKind.signed]; omega
  clear hM
  go_enter Tryd.func40, Tryd.ntmps40
  have FIN : Hid (Marks (World.drew (World.setCell (World.setCell w ⟨U, j, none⟩ (.bool true)) ⟨U, j + 1, none⟩ (.bool true))) U M (mk2 (j : Int) f) ∧ Upd w (World.drew (World.setCell (World.setCell w ⟨U, j, none⟩ (.bool true)) ⟨U, j + 1, none⟩ (.bool true))) (fun k => k = U)) := by
    refine ⟨?_, ((((Upd.refl w (fun k => k = U)).setCell (p := ⟨U, j, none⟩) (fun _ => rfl) _).setCell (p := ⟨U, j + 1, none⟩) (fun _ => rfl) _)).drew⟩
    have h2 : Marks (World.setCell (World.setCell w ⟨U, j, none⟩ (.bool true)) ⟨U, j + 1, none⟩ (.bool true)) U M (mk2 (j : Int) f) := by
      have := (MM.out.set j).set (j + 1)
      have e : (fun i => if i = j + 1 then true else if i = j then true else f i) = mk2 (j : Int) f := by
        unfold mk2
        rw [Int.toNat_natCast]
      rw [← e]
      exact this
    exact ⟨h2.row⟩
  go_wp2_with (fail)
  go_region
  all_goals
    go_wp2_with (fail)
    first | go_end0 | refine bodyPost_ret (results_none rfl _ _ _) rfl ?_
    exact ⟨rfl, FIN.out.1, FIN.out.2⟩
def NeedC (f : Nat → Bool) (a : Int) : Prop := f a.toNat = true ∧ f (a.toNat + 1) = true
def UpF (f g : Nat → Bool) : Prop := ∀ j, f j = true → g j = true
theorem UpF.trans {f g h : Nat → Bool} (a : UpF f g) (b : UpF g h) : UpF f h := fun j hj => b j (a j hj)
theorem NeedC.up {f g : Nat → Bool} {a : Int} (h : NeedC f a) (u : UpF f g) : NeedC g a := ⟨u _ h.1, u _ h.2⟩
theorem mk2_up (a : Int) (f : Nat → Bool) : UpF f (mk2 a f) := fun j hj => by
  unfold mk2
  split
  · rfl
  · split
    · rfl
    · exact hj
theorem mk2_need (a : Int) (f : Nat → Bool) : NeedC (mk2 a f) a := by
  refine ⟨?_, ?_⟩
  · show (if a.toNat = a.toNat + 1 then true else if a.toNat = a.toNat then true else f a.toNat) = true
    rw [if_neg (by omega), if_pos rfl]
  · show (if a.toNat + 1 = a.toNat + 1 then true else if a.toNat + 1 = a.toNat then true else f (a.toNat + 1)) = true
    rw [if_pos rfl]
/-- What an instruction reads. -/
structure NeedI (code : List Int) (f : Nat → Bool) (y : FI) : Prop where
  at_ : NeedC f y.at_
  t : ∀ t, cellOf code y.at_ = some t → NeedC f t ∧ (y.op = 2 → NeedC f (IntKind.u16.wrap (t + 2)))
  long : y.next = IntKind.u16.wrap (y.at_ + 4) → NeedC f (IntKind.u16.wrap (y.at_ + 2))
theorem NeedI.up {code : List Int} {f g : Nat → Bool} {y : FI} (h : NeedI code f y) (u : UpF f g) : NeedI code g y :=
  ⟨h.at_.up u, fun t ht => ⟨(h.t t ht).1.up u, fun e => ((h.t t ht).2 e).up u⟩, fun e => (h.long e).up u⟩
structure NeedW (code : List Int) (f : Nat → Bool) (x : FW) : Prop where
  at_ : NeedC f x.at_
  ins : ∀ y ∈ x.instrs, NeedI code f y
theorem NeedW.up {code : List Int} {f g : Nat → Bool} {x : FW} (h : NeedW code f x) (u : UpF f g) : NeedW code g x := ⟨h.at_.up u, fun y hy => (h.ins y hy).up u⟩
/-- The marks while they are made. -/
structure UsSt (w W : World) (P U M : Nat) (f : Nat → Bool) : Prop where
  below : Below w.heap.size w W
  pw : W.heap[P]? = some (.cells #[.slice (some ⟨U, 0, none⟩) M M] 63 (0, 0))
  mrk : Marks W U M f
  lo : w.heap.size ≤ U ∧ w.heap.size ≤ P ∧ P ≠ U
theorem UsSt.bel {w W W' : World} {P U M : Nat} {f : Nat → Bool} (h : UsSt w W P U M f) (hb : Below W.heap.size W W') : UsSt w W' P U M f :=
  ⟨b_then h.below hb, (hb.block _ (heap_lt h.pw)).trans h.pw, h.mrk.keep (hb.block _ h.mrk.lt), h.lo⟩
theorem UsSt.put {w W W' : World} {P U M : Nat} {f g : Nat → Bool} (h : UsSt w W P U M f) (hm : Marks W' U M g) (hu : Upd W W' (fun k => k = U)) : UsSt w W' P U M g :=
  ⟨h.below.trans (hu.below h.below.size (fun k hk => by have := h.lo.1; omega)), (hu.block _ (heap_lt h.pw) h.lo.2.2).trans h.pw, hm, h.lo⟩
theorem UsSt.mark {w W : World} {P U M : Nat} {f : Nat → Bool} (h : UsSt w W P U M f) (a : Int) (hm : 66000 ≤ M) (hm2 : M ≤ 4000000) (h0 : 0 ≤ a) (h1 : a < 65536) :
    Calls Tryd.prog 40 #[.int .u16 a, .pointer (some ⟨P, 0, none⟩)] W fun e w' => e = .returned (.tuple #[]) ∧ UsSt w w' P U M (mk2 a f) ∧ Upd W w' (fun k => k = U) :=
  (mark_any W P U M f a (by rw [cell_of h.pw]; rfl) h.mrk h.lo.2.2 hm hm2 h0 h1).mono (fun e w' hh => ⟨hh.1, h.put hh.2.1 hh.2.2, hh.2.2⟩)
theorem infoBool : (Tryd.prog.info? 4).map (fun i => (i.zero, i.size, i.bytes)) = some (some (.bool false), 1, 1) := by kernel_rfl

set_option maxRecDepth 100000 in
set_option maxHeartbeats 8000000 in
theorem used_any (w : World) (A : Option Addr) (n c : Nat) (code : List Int) (B : Option Addr) (L d : Nat) (ws : List FW) (h : CodeIn w A code) (hn : n = code.length) (hl : n ≤ 2000000) (hF : FWin w B ws) (hL : L = ws.length) (hL2 : L ≤ 1000000)
    (hok : ∀ x ∈ ws, (0 ≤ x.at_ ∧ x.at_ < 65536) ∧ x.instrs.length ≤ 16384 ∧ ∀ y ∈ x.instrs, (0 ≤ y.at_ ∧ y.at_ < 65536) ∧ ∃ t, cellOf code y.at_ = some t ∧ 0 ≤ t ∧ t < 65536) :
    Calls Tryd.prog 24 #[.slice A n c, .slice B L d] w fun e w' => ∃ U f, e = .returned (.slice (some ⟨U, 0, none⟩) (n + 70000) (n + 70000)) ∧ Marks w' U (n + 70000) f ∧ (∀ x ∈ ws, NeedW code f x) ∧ Below w.heap.size w w' ∧ w.heap.size ≤ U := by
  have HC := Lib.hid h
  have HN := Lib.hid hn
  have HF := Lib.hid hF
  have HL := Lib.hid hL
  have OK := Lib.hid hok
  have hmk := run_make_row' (P := Tryd.prog) 63 4 (.bool false) 1 Tryd.underlying63 infoBool rfl .i64 .i64 (n + 70000) (by omega) (by omega)
  have e7 : ((n + 70000 : Nat) : Int) = (n : Int) + 70000 := by omega
  rw [e7] at hmk
  have z7 : IntKind.i64.wrap ((n : Int) + 70000) = (n : Int) + 70000 := by simp [IntKind.wrap, IntKind.bits, IntKind.signed]; omega
  obtain ⟨zc, hzc⟩ : ∃ zc, zc = madeCells #[Value.bool false] (n + 70000) := ⟨_, rfl⟩
  rw [← hzc] at hmk
  have ST0 : Hid (UsSt w ((w.alloc (.cells zc 4)).alloc (.cells #[.slice (some ⟨w.heap.size, 0, none⟩) (n + 70000) (n + 70000)] 63)) (w.heap.size + 1) w.heap.size (n + 70000) (fun _ => false)) := by
    refine ⟨b_alloc (b_alloc (Below.refl _ _) _) _, alloc_at _ (by simp), ⟨zc, heap_alloc_old (heap_alloc_at _ _), by rw [hzc]; exact (size_madeCells _ _).trans (by simp), fun j hj => by rw [hzc]; simp [madeCells, hj, Nat.mod_one]⟩, by omega, by omega, by omega⟩
  clear h hn hF hL hok hzc e7
  go_enter Tryd.func24, Tryd.ntmps24
  go_wp2_with (fail)
  obtain ⟨M, hM⟩ : ∃ m, m = n + 70000 := ⟨_, rfl⟩
  have HMM := Lib.hid hM
  obtain ⟨W0, hW0⟩ : ∃ V, V = (w.alloc (.cells zc 4)).alloc (.cells #[.slice (some ⟨w.heap.size, 0, none⟩) (n + 70000) (n + 70000)] 63) := ⟨_, rfl⟩
  rw [← hW0] at ST0 ⊢
  rw [← hM] at ST0 ⊢
  obtain ⟨P, hP⟩ : ∃ q, q = w.heap.size + 1 := ⟨_, rfl⟩
  obtain ⟨U, hU⟩ : ∃ q, q = w.heap.size := ⟨_, rfl⟩
  have ST : Hid (UsSt w W0 P U M (fun _ => false)) := by rw [hP, hU]; exact ST0.out
  have hM1 : 66000 ≤ M := by omega
  have hM2 : M ≤ 4000000 := by omega
  rw [← hP]
  rw [← hU]
  clear hW0 hM hP hU ST0 hmk z7
  go_loopw [7] (fun iv wr => ∃ (i : Nat) (f : Nat → Bool), i ≤ L ∧ iv = .int .i64 (i : Int) ∧ Hid (UsSt w wr P U M f) ∧ Hid (∀ x ∈ ws.take i, NeedW code f x)) (fun iv _ => L - (intOf iv).toNat)
  case atStart => exact ⟨0, _, Nat.zero_le _, rfl, ST, Lib.hid (fun x hx => by simp at hx)⟩
  case round =>
    clear ST
    obtain ⟨i, f, hi, rfl, S1, N1⟩ := hrel
    by_cases hlt : i < L
    · have hli : i < ws.length := by rw [← HL.out]; exact hlt
      obtain ⟨b, off, ia, ic, ca, cc, rfl, wi⟩ := (HF.out.below S1.out.below) i hli
      obtain ⟨x, hx⟩ : ∃ x, x = ws[i] := ⟨_, rfl⟩
      rw [← hx] at wi
      have HXI := Lib.hid hx
      have OKX : Hid ((0 ≤ x.at_ ∧ x.at_ < 65536) ∧ x.instrs.length ≤ 16384 ∧ ∀ y ∈ x.instrs, (0 ≤ y.at_ ∧ y.at_ < 65536) ∧ ∃ t, cellOf code y.at_ = some t ∧ 0 ≤ t ∧ t < 65536) := OK.out x (by rw [hx]; exact List.getElem_mem hli)
      have WW : Hid (∀ W, Below w.heap.size w W → WordIn W b (off + i * 3) x ia ic ca cc) := fun W hW => by
        obtain ⟨b', off', ia', ic', ca', cc', e1, w1⟩ := (HF.out.below hW) i hli
        cases e1
        rw [← HXI.out] at w1
        have q0 := HF.out i hli
        obtain ⟨b2, off2, ia2, ic2, ca2, cc2, e2, w2⟩ := q0
        cases e2
        have a1 := wi.c1.symm.trans (((S1.out.below.cell (World.block_lt_of_cell? w _ w2.c1)).trans w2.c1))
        have a2 := wi.c2.symm.trans (((S1.out.below.cell (World.block_lt_of_cell? w _ w2.c2)).trans w2.c2))
        have b1 := w1.c1.symm.trans (((hW.cell (World.block_lt_of_cell? w _ w2.c1)).trans w2.c1))
        have b2' := w1.c2.symm.trans (((hW.cell (World.block_lt_of_cell? w _ w2.c2)).trans w2.c2))
        rw [← HXI.out] at w2
        have d1 := a1.trans b1.symm
        have d2 := a2.trans b2'.symm
        cases d1
        cases d2
        exact w1
      obtain ⟨p, hp⟩ : ∃ p, p = x.at_ := ⟨_, rfl⟩
      obtain ⟨il, hil⟩ : ∃ q, q = x.instrs.length := ⟨_, rfl⟩
      have HP := Lib.hid hp
      have HIL := Lib.hid hil
      have e0 := wi.c0
      rw [← hp] at e0
      have hil2 : il ≤ 16384 := by rw [hil]; exact OKX.out.2.1
      have hin : (i : Int) < (L : Int) := by omega
      clear hx hp hil wi
      go_wp2_with (fail)
      refine (S1.out.mark p (by omega) (by omega) (by rw [HP.out]; exact OKX.out.1.1) (by rw [HP.out]; exact OKX.out.1.2)).mono ?_
      rintro e W1 ⟨rfl, s2, u2⟩
      have S2 := Lib.hid s2
      clear s2 u2 e0
      go_wp2_with (fail)
      go_loopw [8] (fun kv wr => ∃ (k : Nat) (g : Nat → Bool), k ≤ il ∧ kv = .int .i64 (k : Int) ∧ Hid (UsSt w wr P U M g) ∧ Hid (UpF (mk2 p f) g ∧ ∀ y ∈ x.instrs.take k, NeedI code g y)) (fun kv _ => il - (intOf kv).toNat)
      case atStart => exact ⟨0, _, Nat.zero_le _, rfl, S2, Lib.hid ⟨fun _ h => h, fun y hy => by simp at hy⟩⟩
      case round =>
        clear S2
        obtain ⟨k, g, hk, rfl, S3, N3⟩ := hrel
        have wk := WW.out wr S3.out.below
        have e1 := wk.c1
        rw [← HIL.out] at e1
        by_cases hlk : k < il
        · have hkx : k < x.instrs.length := by rw [← HIL.out]; exact hlk
          obtain ⟨bi, oi, rfl, c0, c1', c2', c3', c4'⟩ := wk.ins.at_ k hkx
          obtain ⟨y, hy⟩ : ∃ y, y = x.instrs[k] := ⟨_, rfl⟩
          rw [← hy] at c0 c1' c2' c3' c4'
          have TK : Hid (x.instrs.take (k + 1) = x.instrs.take k ++ [y]) := by show _ = _; rw [hy, List.take_append_getElem]
          have YOK := Lib.hid (OKX.out.2.2 y (by rw [hy]; exact List.getElem_mem hkx))
          obtain ⟨t, ht, ht0, ht1⟩ := YOK.out.2
          have HCELL := Lib.hid ht
          have STEP : Hid (∀ g' : Nat → Bool, UpF g g' → NeedI code g' y → Hid (UpF (mk2 p f) g' ∧ ∀ z ∈ x.instrs.take (k + 1), NeedI code g' z)) := fun g' u ni => ⟨N3.out.1.trans u, fun z hz => by
            rw [TK.out] at hz
            rcases List.mem_append.1 hz with hz | hz
            · exact (N3.out.2 z hz).up u
            · rw [List.mem_singleton.1 hz]; exact ni⟩
          have hkn : (k : Int) < (il : Int) := by omega
          have hin2 : (i : Int) < (L : Int) := by omega
          clear hy wk ht
          go_upto_region 11 with fail
          obtain ⟨V8, hV8⟩ : ∃ V, V = wr.alloc (.cells #[.int .u16 y.at_, .int .i64 y.op, .int .u16 y.operand, .int .u16 y.word, .int .u16 y.next] 60) := ⟨_, rfl⟩
          obtain ⟨XI, hXI⟩ : ∃ q, q = wr.heap.size := ⟨_, rfl⟩
          have bb8 : Below wr.heap.size wr V8 := by rw [hV8]; exact b_alloc (Below.refl _ _) _
          have S8 := Lib.hid (S3.out.bel bb8)
          have I8 : Hid (V8.heap[XI]? = some (.cells #[.int .u16 y.at_, .int .i64 y.op, .int .u16 y.operand, .int .u16 y.word, .int .u16 y.next] 60 (0, 0))) := by show _ = _; rw [hV8, hXI]; exact heap_alloc_at _ _
          have XU : Hid (XI ≠ U) := fun e => by have := S3.out.mrk.lt; omega
          rw [← hV8, ← hXI]
          clear hV8 hXI bb8 S3 c0 c1' c2' c3' c4' e1
          have IB : Hid (∀ W : World, W.heap[XI]? = some (.cells #[.int .u16 y.at_, .int .i64 y.op, .int .u16 y.operand, .int .u16 y.word, .int .u16 y.next] 60 (0, 0)) → W.cell? ⟨XI, 0, none⟩ = some (.int .u16 y.at_) ∧ W.cell? ⟨XI, 1, none⟩ = some (.int .i64 y.op) ∧ W.cell? ⟨XI, 4, none⟩ = some (.int .u16 y.next)) := fun W hW => ⟨cell_of hW 0, cell_of hW 1, cell_of hW 4⟩
          obtain ⟨i0, i1, i4⟩ := IB.out V8 I8.out
          have CE : Hid (Calls Tryd.prog 19 #[.slice A n c, .int .u16 y.at_] V8 fun e w' => e = .returned (.tuple #[.int .u16 ((cellOf code y.at_).getD 0), .bool (cellOf code y.at_).isSome]) ∧ Quiet V8 w') := by
            rw [HN.out]
            exact lcell_any V8 A c code y.at_ (HC.out.below S8.out.below) YOK.out.1.1 YOK.out.1.2
          go_wp2_with (fail)
          refine CE.out.mono ?_
          rintro e W9 ⟨rfl, nq, rfl⟩
          rw [HCELL.out]
          have g1 : (some t).getD 0 = t := rfl
          have g2 : (some t).isSome = true := rfl
          rw [g1, g2]
          have I9 : Hid ((V8.drewN nq).heap[XI]? = some (.cells #[.int .u16 y.at_, .int .i64 y.op, .int .u16 y.operand, .int .u16 y.word, .int .u16 y.next] 60 (0, 0))) := I8.out
          have S9 := Lib.hid (S8.out.bel (b_drewN (Below.refl _ _) nq))
          clear g1 g2 CE i0 i1 i4
          obtain ⟨i0, i1, i4⟩ := IB.out (V8.drewN nq) I9.out
          go_wp2_with (fail)
          refine (S9.out.mark y.at_ (by omega) (by omega) YOK.out.1.1 YOK.out.1.2).mono ?_
          rintro e W10 ⟨rfl, s10, u10⟩
          have S10 := Lib.hid s10
          have I10 := Lib.hid ((u10.block XI (heap_lt I9.out) XU.out).trans I9.out)
          clear s10 u10 i0 i1 i4 S9 I9 S8 I8
          go_wp2_with (fail)
          refine (S10.out.mark t (by omega) (by omega) ht0 ht1).mono ?_
          rintro e W11 ⟨rfl, s11, u11⟩
          have S11 := Lib.hid s11
          have I11 := Lib.hid ((u11.block XI (heap_lt I10.out) XU.out).trans I10.out)
          clear s11 u11 S10 I10
          by_cases e4 : y.next = IntKind.u16.wrap (y.at_ + 4)
          · have me : (y.next == IntKind.u16.wrap (y.at_ + 4)) = true := by simp [e4]
            obtain ⟨i0, i1, i4⟩ := IB.out W11 I11.out
            clear e4
            go_wp2_with (fail)
            refine (S11.out.mark (IntKind.u16.wrap (y.at_ + 2)) (by omega) (by omega) (wrap16_range _).1 (wrap16_range _).2).mono ?_
            rintro e W12 ⟨rfl, s12, u12⟩
            have S12 := Lib.hid s12
            have I12 := Lib.hid ((u12.block XI (heap_lt I11.out) XU.out).trans I11.out)
            clear s12 u12 S11 I11 i0 i1 i4
            obtain ⟨i0, i1, i4⟩ := IB.out W12 I12.out
            by_cases e2 : y.op = 2
            · have m2 : (y.op == 2) = true := by simp [e2]
              go_wp2_with (fail)
              refine (S12.out.mark (IntKind.u16.wrap (t + 2)) (by omega) (by omega) (wrap16_range _).1 (wrap16_range _).2).mono ?_
              rintro e W13 ⟨rfl, s13, u13⟩
              have S13 := Lib.hid s13
              have NI : Hid (UpF g (mk2 (IntKind.u16.wrap (t + 2)) (mk2 (IntKind.u16.wrap (y.at_ + 2)) (mk2 t (mk2 y.at_ g)))) ∧ NeedI code (mk2 (IntKind.u16.wrap (t + 2)) (mk2 (IntKind.u16.wrap (y.at_ + 2)) (mk2 t (mk2 y.at_ g)))) y) := by
                have u0 : UpF (mk2 t (mk2 y.at_ g)) (mk2 (IntKind.u16.wrap (t + 2)) (mk2 (IntKind.u16.wrap (y.at_ + 2)) (mk2 t (mk2 y.at_ g)))) := (mk2_up _ _).trans (mk2_up _ _)
                refine ⟨((mk2_up _ _).trans (mk2_up _ _)).trans u0, ((mk2_need y.at_ g).up (mk2_up _ _)).up u0, fun t' ht => ?_, fun e => ?_⟩
                · have : t' = t := by rw [HCELL.out] at ht; exact (Option.some.inj ht).symm
                  subst this
                  exact ⟨(mk2_need _ _).up u0, fun _ => mk2_need _ _⟩
                · exact (mk2_need _ _).up (mk2_up _ _)
              clear s13 u13 e2
              go_wp2_with (fail)
              go_roundw
              case rel => exact ⟨k + 1, _, hlk, by go_num, S13, STEP.out _ NI.out.1 NI.out.2⟩
              case measure => first | (simp [intOf]; done) | (simp [intOf]; omega)
            · have m2 : (y.op == 2) = false := by simp [e2]
              have N2 := Lib.hid e2
              have NI : Hid (UpF g (mk2 (IntKind.u16.wrap (y.at_ + 2)) (mk2 t (mk2 y.at_ g))) ∧ NeedI code (mk2 (IntKind.u16.wrap (y.at_ + 2)) (mk2 t (mk2 y.at_ g))) y) := by
                have u0 : UpF (mk2 t (mk2 y.at_ g)) (mk2 (IntKind.u16.wrap (y.at_ + 2)) (mk2 t (mk2 y.at_ g))) := mk2_up _ _
                refine ⟨((mk2_up _ _).trans (mk2_up _ _)).trans u0, ((mk2_need y.at_ g).up (mk2_up _ _)).up u0, fun t' ht => ?_, fun e => ?_⟩
                · have : t' = t := by rw [HCELL.out] at ht; exact (Option.some.inj ht).symm
                  subst this
                  exact ⟨(mk2_need _ _).up u0, fun e => absurd e N2.out⟩
                · exact mk2_need _ _
              clear e2
              go_wp2_with (fail)
              go_roundw
              case rel => exact ⟨k + 1, _, hlk, by go_num, S12, STEP.out _ NI.out.1 NI.out.2⟩
              case measure => first | (simp [intOf]; done) | (simp [intOf]; omega)
          · have me : (y.next == IntKind.u16.wrap (y.at_ + 4)) = false := by simp [e4]
            have N4 := Lib.hid e4
            clear e4
            obtain ⟨i0, i1, i4⟩ := IB.out W11 I11.out
            by_cases e2 : y.op = 2
            · have m2 : (y.op == 2) = true := by simp [e2]
              go_wp2_with (fail)
              refine (S11.out.mark (IntKind.u16.wrap (t + 2)) (by omega) (by omega) (wrap16_range _).1 (wrap16_range _).2).mono ?_
              rintro e W13 ⟨rfl, s13, u13⟩
              have S13 := Lib.hid s13
              have NI : Hid (UpF g (mk2 (IntKind.u16.wrap (t + 2)) (mk2 t (mk2 y.at_ g))) ∧ NeedI code (mk2 (IntKind.u16.wrap (t + 2)) (mk2 t (mk2 y.at_ g))) y) := by
                have u0 : UpF (mk2 t (mk2 y.at_ g)) (mk2 (IntKind.u16.wrap (t + 2)) (mk2 t (mk2 y.at_ g))) := mk2_up _ _
                refine ⟨((mk2_up _ _).trans (mk2_up _ _)).trans u0, ((mk2_need y.at_ g).up (mk2_up _ _)).up u0, fun t' ht => ?_, fun e => ?_⟩
                · have : t' = t := by rw [HCELL.out] at ht; exact (Option.some.inj ht).symm
                  subst this
                  exact ⟨(mk2_need _ _).up u0, fun _ => mk2_need _ _⟩
                · exact absurd e N4.out
              clear s13 u13 e2
              go_wp2_with (fail)
              go_roundw
              case rel => exact ⟨k + 1, _, hlk, by go_num, S13, STEP.out _ NI.out.1 NI.out.2⟩
              case measure => first | (simp [intOf]; done) | (simp [intOf]; omega)
            · have m2 : (y.op == 2) = false := by simp [e2]
              have N2 := Lib.hid e2
              have NI : Hid (UpF g (mk2 t (mk2 y.at_ g)) ∧ NeedI code (mk2 t (mk2 y.at_ g)) y) := by
                have u0 : UpF (mk2 t (mk2 y.at_ g)) (mk2 t (mk2 y.at_ g)) := (fun _ h => h)
                refine ⟨((mk2_up _ _).trans (mk2_up _ _)).trans u0, ((mk2_need y.at_ g).up (mk2_up _ _)).up u0, fun t' ht => ?_, fun e => ?_⟩
                · have : t' = t := by rw [HCELL.out] at ht; exact (Option.some.inj ht).symm
                  subst this
                  exact ⟨(mk2_need _ _).up u0, fun e => absurd e N2.out⟩
                · exact absurd e N4.out
              clear e2
              go_wp2_with (fail)
              go_roundw
              case rel => exact ⟨k + 1, _, hlk, by go_num, S11, STEP.out _ NI.out.1 NI.out.2⟩
              case measure => first | (simp [intOf]; done) | (simp [intOf]; omega)
        · have hke : k = x.instrs.length := by rw [← HIL.out]; omega
          have NW : Hid (∀ z ∈ ws.take (i + 1), NeedW code g z) := fun z hz => by
            rw [← List.take_append_getElem hli, ← HXI.out] at hz
            rcases List.mem_append.1 hz with hz | hz
            · exact (N1.out z hz).up ((mk2_up _ _).trans N3.out.1)
            · rw [List.mem_singleton.1 hz]
              refine ⟨?_, fun y hy => N3.out.2 y (by rw [hke, List.take_length]; exact hy)⟩
              rw [← HP.out]
              exact (mk2_need p f).up N3.out.1
          have hkn : ¬ (k : Int) < (il : Int) := by omega
          have hin2 : (i : Int) < (L : Int) := by omega
          clear hke
          go_wp2_with (fail)
          go_roundw
          case rel => exact ⟨i + 1, g, hlt, by go_num, S3, NW⟩
          case measure => first | (simp [intOf]; done) | (simp [intOf]; omega)
    · have FIN : Hid (∀ x ∈ ws, NeedW code f x) := fun x hx => N1.out x (by rw [List.take_of_length_le (by have := HL.out; omega)]; exact hx)
      have hin : ¬ (i : Int) < (L : Int) := by omega
      have q0 := cell_of S1.out.pw 0
      have q0 : wr.cell? ⟨P, 0, none⟩ = some (.slice (some ⟨U, 0, none⟩) M M) := q0
      go_wp2_with (fail)
      go_ret
      have hMe : M = n + 70000 := HMM.out
      subst hMe
      first
        | exact ⟨U, f, rfl, S1.out.mrk, FIN.out, S1.out.below, S1.out.lo.1⟩
        | exact ⟨U, rfl, f, S1.out.mrk, FIN.out, S1.out.below, S1.out.lo.1⟩
end Go.Proofs.YtabeljpnmmfpgaaDoor
