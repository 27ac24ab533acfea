/-
  The law's own and wholeCode: a cartridge with a code list of its own.
-/
import Derived.Deep.Cut
import Derived.Deep.RegionHeld3
import Derived.BigQuiet
import Derived.Test.YtabeljpnmmfpgaaDoorFlConvB
import Derived.Test.YtabeljpnmmfpgaaDoorFlRwD
namespace Go.Proofs.YtabeljpnmmfpgaaDoor
open Go.RowKit Go.MapKept Go.Maps Go.Sort
set_option linter.unusedVariables false
set_option linter.unusedSimpArgs false

theorem infoB : (Tryd.prog.info? 5).map (fun i => (i.zero, i.size, i.bytes)) = some (some (.int .u8 0), 1, 1) := by kernel_rfl
/-- The code copied, with marks behind. -/
structure OwnMid (W0 W : World) (b g n cap : Nat) (en : Int) (ve vb : Value) (code : List Int) : Prop where
  upd : Upd W0 W (fun k => k = b)
  box : W.heap[b]? = some (.cells #[.slice (some ⟨g, 0, none⟩) n cap, .int .u16 en, ve, vb] 27 (0, 0))
  row : W.ownsRow W0.heap.size 5 1 (.slice (some ⟨g, 0, none⟩) (n + 2) cap) (n + 2) (code.map (Value.int .u8) ++ [.int .u8 77, .int .u8 78])

theorem tail_c4 {P : Program} {fn : Func} {Q : Ending → World → Prop} {act : Act} {W : World} {b : Nat} {u0 u1 u2 u3 v0 v1 v2 v3 : Value} (hz : W.heap[b]? = some (.cells #[v0, v1, v2, v3] 27 (0, 0)))
    (k : ∀ V, V.heap[b]? = some (.cells #[u0, u1, u2, u3] 27 (0, 0)) → Upd W V (fun i => i = b) → bodyPost P fn Q Exit.ret act V) :
    bodyPost P fn Q Exit.ret act (World.setCell (World.setCell (World.setCell (World.setCell W ⟨b, 0, none⟩ u0) ⟨b, 1, none⟩ u1) ⟨b, 2, none⟩ u2) ⟨b, 3, none⟩ u3) :=
  k _ (heap_set_cell (heap_set_cell (heap_set_cell (heap_set_cell hz 0 u0) 1 u1) 2 u2) 3 u3) (((((Upd.refl W (fun i => i = b)).setCell (p := ⟨b, 0, none⟩) (fun _ => rfl) _).setCell (p := ⟨b, 1, none⟩) (fun _ => rfl) _).setCell (p := ⟨b, 2, none⟩) (fun _ => rfl) _).setCell (p := ⟨b, 3, none⟩) (fun _ => rfl) _)
theorem newsT2 {W : World} {g : Nat} {t : TypeId} (h : W.heap[g]? = some (.cells #[.int .u8 77, .int .u8 78] t (0, 0))) : ∀ ad : Addr, some (⟨g, 0, none⟩ : Addr) = some ad → ∀ j u, ([.int .u8 77, .int .u8 78] : List Value)[j]? = some u → W.cell? (ad.add j) = some u := by
  rintro ad e j u hj
  cases e
  have e : (⟨g, 0, none⟩ : Addr).add j = ⟨g, j, none⟩ := by unfold Addr.add; split <;> simp_all
  rw [e, cell_of h j]
  simpa using hj
/-- The cartridge's own box, and its code as it is read. -/
structure OwnC (W0 : World) (b n c : Nat) (A : Option Addr) (L : List Value) (en ve vb : Value) : Prop where
  box : W0.heap[b]? = some (.cells #[.slice A n c, en, ve, vb] 27 (0, 0))
  nil : A = none → c = 0 ∧ n = 0
  len : L.length = n * 1
  one : ∀ u ∈ L, u.oneCell' = true
  news : ∀ W, Below W0.heap.size W0 W → ∀ ad, A = some ad → ∀ j u, L[j]? = some u → W.cell? (ad.add j) = some u
  small : n ≤ 2000000
structure Fresh (W0 W : World) (g0 : Nat) : Prop where
  below : Below W0.heap.size W0 W
  ge : W0.heap.size ≤ g0
  at_ : W.heap[g0]? = some (.cells #[] 5 (0, 0))
structure OMid (W0 W w1 : World) (b n c g0 g1 cap1 : Nat) (A : Option Addr) (L : List Value) : Prop where
  c0 : w1.cell? ⟨b, 0, none⟩ = some (.slice A n c)
  fz : w1.frozen? ⟨b, 0, none⟩ = false
  lt : b < w1.heap.size
  below : Below W0.heap.size W0 w1
  row : w1.ownsRow W0.heap.size 5 1 (.slice (some ⟨g1, 0, none⟩) n cap1) n L
  upd : Upd W w1 (fun k => k = g0)
structure OTwo (W0 W : World) (n g1 cap1 d : Nat) (L : List Value) : Prop where
  below : Below W0.heap.size W0 W
  row : W.ownsRow W0.heap.size 5 1 (.slice (some ⟨g1, 0, none⟩) n cap1) n L
  at_ : W.heap[d]? = some (.cells #[.int .u8 77, .int .u8 78] 5 (0, 0))
structure OEnd (W0 w2 : World) (b n c g2 cap2 : Nat) (A : Option Addr) (L : List Value) : Prop where
  c0 : w2.cell? ⟨b, 0, none⟩ = some (.slice A n c)
  fz : w2.frozen? ⟨b, 0, none⟩ = false
  le : (n : Int) ≤ (cap2 : Int)
  below : Below W0.heap.size W0 w2
  row : w2.ownsRow W0.heap.size 5 1 (.slice (some ⟨g2, 0, none⟩) (n + 2) cap2) (n + 2) (L ++ [.int .u8 77, .int .u8 78])
theorem OMid.late {W0 W w1 : World} {b n c g0 g1 cap1 : Nat} {A : Option Addr} {L : List Value} (h : OMid W0 W w1 b n c g0 g1 cap1 A L) : OTwo W0 (w1.alloc (.cells #[.int .u8 77, .int .u8 78] 5)) n g1 cap1 w1.heap.size L :=
  ⟨b_alloc h.below _, h.row.alloc _, heap_alloc_at _ _⟩
theorem OMid.early {W0 W w1 : World} {b n c g0 g1 cap1 d : Nat} {A : Option Addr} {L : List Value} (h : OMid W0 W w1 b n c g0 g1 cap1 A L) (hd : W.heap[d]? = some (.cells #[.int .u8 77, .int .u8 78] 5 (0, 0))) (hne : d ≠ g0) : OTwo W0 w1 n g1 cap1 d L :=
  ⟨h.below, h.row, (h.upd.block d (heap_lt hd) hne).trans hd⟩
section
variable {W0 W : World} {b n c g0 g1 cap1 d : Nat} {A : Option Addr} {L : List Value} {en ve vb : Value} {ops : Array Oper} {o : Oper} {a : Act} {K : Act → World → Prop} {Q : Exit → Act → World → Prop} {E : Prop}
theorem own_step1 (hC : OwnC W0 b n c A L en ve vb) (hF : Fresh W0 W g0) (hgd : o.guard = none) (ho : o.op = .call { callee := .builtin .append, args := #[.tmp 3, .tmp 5], argTypes := #[22, 22] })
    (hs : a.eval (.tmp 3) = .slice (some ⟨g0, 0, none⟩) 0 0) (hx : a.eval (.tmp 5) = .slice A n c)
    (h : ∀ w1 g1 cap1, OMid W0 W w1 b n c g0 g1 cap1 A L → K (a.put o.dst (.slice (some ⟨g1, 0, none⟩) n cap1)) w1) :
    if Region.wanted o (yielded ops a.tmps) = true then Oper.wp Tryd.prog o a W K Q else E := by
  obtain ⟨i0, hi0, hz0, hz1, hz2⟩ := info_parts infoB
  have hsm := hC.small
  refine step_append_own hgd (.tmp 3) (.tmp 5) 22 ho W0.heap.size 5 i0 _ 1 1 Tryd.underlying22 hi0 hz0 hz1 hz2 rfl (by decide) g0 0 0 [] hs ⟨rfl, .inr ⟨g0, 0, #[], rfl, hF.ge, hF.at_, Nat.le_refl _, by simp [maxLen], rfl, rfl⟩⟩ A n c L hx hC.nil hC.len (hC.news W hF.below) hC.one (by simp only [maxLen]; omega) (by omega) hF.below.size n (by omega) ?_
  intro g1 cap1 w1 ho1 hu hat
  have hb1 : Below W0.heap.size W0 w1 := below_app hF.below hF.below.size hF.ge hu
  have hbl := heap_lt hC.box
  have hs1 := hb1.size
  exact h w1 g1 cap1 ⟨keep_cell (cell_of hC.box 0) hb1, free_of ((hb1.block b hbl).trans hC.box) _, by omega, hb1, ho1, hu⟩
theorem own_step2 (hC : OwnC W0 b n c A L en ve vb) (hT : OTwo W0 W n g1 cap1 d L) (hgd : o.guard = none) (ho : o.op = .call { callee := .builtin .append, args := #[.tmp 6, .tmp 7], argTypes := #[22, 22] })
    (hs : a.eval (.tmp 6) = .slice (some ⟨g1, 0, none⟩) n cap1) (hx : a.eval (.tmp 7) = .slice (some ⟨d, 0, none⟩) 2 2)
    (h : ∀ w2 g2 cap2, OEnd W0 w2 b n c g2 cap2 A L → K (a.put o.dst (.slice (some ⟨g2, 0, none⟩) (n + 2) cap2)) w2) :
    if Region.wanted o (yielded ops a.tmps) = true then Oper.wp Tryd.prog o a W K Q else E := by
  obtain ⟨i0, hi0, hz0, hz1, hz2⟩ := info_parts infoB
  have hsm := hC.small
  obtain ⟨q1, q2, q3⟩ := ownsRow_some hT.row
  refine step_append_own hgd (.tmp 6) (.tmp 7) 22 ho W0.heap.size 5 i0 _ 1 1 Tryd.underlying22 hi0 hz0 hz1 hz2 rfl (by decide) g1 n cap1 L hs hT.row (some ⟨d, 0, none⟩) 2 2 [.int .u8 77, .int .u8 78] hx (by intro e; cases e) rfl (newsT2 hT.at_) (by simp [Value.oneCell']) (by simp only [maxLen]; omega) (by omega) hT.below.size (n + 2) rfl ?_
  intro g2 cap2 w2 ho1 hu hat
  have hb2 : Below W0.heap.size W0 w2 := below_app hT.below hT.below.size q1 hu
  have hbl := heap_lt hC.box
  obtain ⟨_, _, q4⟩ := ownsRow_some ho1
  exact h w2 g2 cap2 ⟨keep_cell (cell_of hC.box 0) hb2, free_of ((hb2.block b hbl).trans hC.box) _, by omega, hb2, ho1⟩
end
theorem own_fin {W0 w2 : World} {b n c g2 cap2 : Nat} {A : Option Addr} {code : List Int} {en : Int} {ve vb : Value} (hC : OwnC W0 b n c A (code.map (Value.int .u8)) (.int .u16 en) ve vb) (h : OEnd W0 w2 b n c g2 cap2 A (code.map (Value.int .u8))) : OwnMid W0 (w2.setCell ⟨b, 0, none⟩ (.slice (some ⟨g2, 0, none⟩) n cap2)) b g2 n cap2 en ve vb code := by
  obtain ⟨q1, q2, q3⟩ := ownsRow_some h.row
  have hbl := heap_lt hC.box
  have hb2 := h.below
  have hu : Upd W0 w2 (fun k => k = b) := ⟨hb2.os, hb2.tape, hb2.output, hb2.size, fun k hk _ => hb2.block k hk⟩
  refine ⟨hu.setCell (p := ⟨b, 0, none⟩) (fun _ => rfl) _, heap_set_cell ((hb2.block b hbl).trans hC.box) 0 _, ?_⟩
  refine ownsRow_keep h.row (fun k hk => ?_)
  have : g2 = k := by simpa [Value.ownBlock] using hk
  subst this
  exact heap_set_far (by omega)

set_option maxRecDepth 100000 in
set_option maxHeartbeats 8000000 in
theorem ownC_any (w : World) (A : Option Addr) (n c : Nat) (code : List Int) (en : Int) (Ae : Option Addr) (ne ce : Nat) (Ab : Option Addr) (nb cb : Nat) (h : CodeIn w A code) (hn : n = code.length) (hA : A = none → c = 0) (hl : n ≤ 2000000) :
    Calls Tryd.prog 10 #[.agg #[.slice A n c, .int .u16 en, .slice Ae ne ce, .slice Ab nb cb]] w fun e w' => ∃ g cap, e = .returned (.agg #[.slice (some ⟨g, 0, none⟩) n cap, .int .u16 en, .slice Ae ne ce, .slice Ab nb cb]) ∧ n + 2 ≤ cap ∧
      w'.ownsRow w.heap.size 5 1 (.slice (some ⟨g, 0, none⟩) (n + 2) cap) (n + 2) (code.map (Value.int .u8) ++ [.int .u8 77, .int .u8 78]) ∧ Below w.heap.size w w' := by
  obtain ⟨i0, hi0, hz0, hz1, hz2⟩ := info_parts infoB
  have HC := Lib.hid h
  have HN := Lib.hid hn
  have HA := Lib.hid hA
  clear h hn hA
  go_enter Tryd.func10, Tryd.ntmps10
  go_upto_region 1 with fail
  obtain ⟨W0, hW0⟩ : ∃ V, V = World.alloc (World.alloc w (.cells #[.slice A n c, .int .u16 en, .slice Ae ne ce, .slice Ab nb cb] 27)) (.cells #[.slice none 0 0, .int .u16 0, .slice none 0 0, .slice none 0 0] 27) := ⟨_, rfl⟩
  obtain ⟨b, hb⟩ : ∃ b, b = w.heap.size := ⟨_, rfl⟩
  have B0 : Hid (Below w.heap.size w W0) := by rw [hW0]; exact b_alloc (b_alloc (Below.refl _ _) _) _
  have X0 : Hid (W0.heap[b]? = some (.cells #[.slice A n c, .int .u16 en, .slice Ae ne ce, .slice Ab nb cb] 27 (0, 0))) := by show _ = _; rw [hW0, hb]; exact heap_alloc_old (heap_alloc_at _ _)
  have Z0 : Hid (W0.heap[b + 1]? = some (.cells #[.slice none 0 0, .int .u16 0, .slice none 0 0, .slice none 0 0] 27 (0, 0))) := by show _ = _; rw [hW0, hb]; exact alloc_at _ (by simp)
  have SB : Hid (b = w.heap.size ∧ W0.heap.size = b + 2) := ⟨hb, by rw [hW0, hb]; simp⟩
  rw [← hW0, ← hb]
  clear hW0 hb
  have bsz : W0.heap.size = b + 2 := SB.out.2
  have c0 : W0.cell? ⟨b, 0, none⟩ = some (.slice A n c) := cell_of X0.out 0
  have OC : Hid (OwnC W0 b n c A (code.map (Value.int .u8)) (.int .u16 en) (.slice Ae ne ce) (.slice Ab nb cb)) := by
    refine ⟨X0.out, fun e => ⟨HA.out e, ?_⟩, ?_, fun u hu => ?_, fun W hW ad e j u hj => ?_, hl⟩
    · have e2 := HN.out
      by_cases h0 : 0 < code.length
      · obtain ⟨ad, e3, _⟩ := HC.out.at_ 0 h0
        rw [e] at e3; cases e3
      · omega
    · rw [HN.out]; simp
    · obtain ⟨y, _, rfl⟩ := List.mem_map.1 hu
      rfl
    · rw [List.getElem?_map] at hj
      obtain ⟨y, hy, rfl⟩ := Option.map_eq_some_iff.1 hj
      obtain ⟨hj1, rfl⟩ := List.getElem?_eq_some_iff.1 hy
      obtain ⟨ad2, e2, hc⟩ := HC.out.at_ j hj1
      rw [e] at e2
      cases e2
      rw [List.getD_eq_getElem?_getD, List.getElem?_eq_getElem hj1] at hc
      exact keep_cell (keep_cell hc B0.out) hW
  have F1 : Hid (Fresh W0 ((W0.alloc (.cells #[] 5)).drew) (b + 2)) := ⟨(b_alloc (Below.refl _ _) _).drew, by omega, by rw [← bsz]; exact heap_alloc_at _ _⟩
  have F2 : Hid (Fresh W0 (((W0.alloc (.cells #[] 5)).alloc (.cells #[.int .u8 77, .int .u8 78] 5)).drew) (b + 2)) := ⟨(b_alloc (b_alloc (Below.refl _ _) _) _).drew, by omega, by rw [← bsz]; exact heap_alloc_old (heap_alloc_at _ _)⟩
  have F3 : Hid (Fresh W0 (((W0.alloc (.cells #[.int .u8 77, .int .u8 78] 5)).alloc (.cells #[] 5)).drew) (b + 3)) := ⟨(b_alloc (b_alloc (Below.refl _ _) _) _).drew, by omega, alloc_at _ (by simp; omega)⟩
  have D2 : Hid ((((W0.alloc (.cells #[] 5)).alloc (.cells #[.int .u8 77, .int .u8 78] 5)).drew).heap[b + 3]? = some (.cells #[.int .u8 77, .int .u8 78] 5 (0, 0))) := alloc_at _ (by simp; omega)
  have D3 : Hid ((((W0.alloc (.cells #[.int .u8 77, .int .u8 78] 5)).alloc (.cells #[] 5)).drew).heap[b + 2]? = some (.cells #[.int .u8 77, .int .u8 78] 5 (0, 0))) := by show _ = _; rw [← bsz]; exact heap_alloc_old (heap_alloc_at _ _)
  have ALL := Lib.hid (And.intro B0.out (And.intro Z0.out (And.intro SB.out OC.out)))
  clear HC HN HA hi0 hz0 hz1 hz2 X0 Z0 SB B0 hl
  go_cut [] (fun wx => ∃ g2 cap2, Hid (OwnMid W0 wx b g2 n cap2 en (.slice Ae ne ce) (.slice Ab nb cb) code))
  case first =>
    go_region_law (first
      | (refine own_step1 OC.out (by first | exact F1.out | exact F2.out | exact F3.out) rfl rfl rfl rfl ?_; intro w1 g1 cap1 M; have k0 := M.c0; have k1 := M.lt; have M := Lib.hid M)
      | (refine own_step2 (g1 := g1) (cap1 := cap1) OC.out (by first | exact M.out.late | exact M.out.early D2.out (by omega) | exact M.out.early D3.out (by omega)) rfl rfl rfl rfl ?_; intro w2 g2 cap2 M2; have k2 := M2.c0; have k3 := M2.fz; have k4 := M2.le; have M2 := Lib.hid M2; clear k0 k1 M))
    all_goals
      go_wp2_with (fail)
      go_meet
      exact ⟨g2, cap2, own_fin OC.out M2.out⟩
  case rest =>
    obtain ⟨g2, cap2, hM⟩ := hcut
    obtain ⟨B0, Z0, SB, OCC⟩ := ALL.out
    clear F1 F2 F3 D2 D3 c0 OC ALL
    have q := ownsRow_some hM.out.row
    have d0 := cell_of hM.out.box 0
    have d1 := cell_of hM.out.box 1
    have d2 := cell_of hM.out.box 2
    have d3 := cell_of hM.out.box 3
    have z := (hM.out.upd.block (b + 1) (by omega) (by omega)).trans Z0
    have z0 := cell_of z 0
    have z1 := cell_of z 1
    have z2 := cell_of z 2
    have z3 := cell_of z 3
    have y0 := free_of z 0
    have y1 := free_of z 1
    have y2 := free_of z 2
    have y3 := free_of z 3
    have LE : Hid (n + 2 ≤ cap2) := q.2.2
    have ROW : Hid (∀ V, Upd wc V (fun i => i = b + 1) → V.ownsRow w.heap.size 5 1 (.slice (some ⟨g2, 0, none⟩) (n + 2) cap2) (n + 2) (code.map (Value.int .u8) ++ [.int .u8 77, .int .u8 78]) ∧ Below w.heap.size w V) := fun V hV => by
      have q1 := q.1
      have q2 := q.2.1
      have e1 := SB.1
      have hu := hM.out.upd
      have s1 := hu.size
      refine ⟨ownsRow_lower (ownsRow_keep hM.out.row (fun k hk => ?_)) (by omega), (B0.trans (hu.below (by omega) (fun k hk => by omega))).trans (hV.below (by omega) (fun k hk => by omega))⟩
      have : g2 = k := by simpa [Value.ownBlock] using hk
      subst this
      exact hV.block _ q2 (by omega)
    have Z := Lib.hid z
    clear z q SB OCC B0 Z0
    go_wp2_with (fail)
    refine tail_c4 Z.out ?_
    intro V hV hU
    have m0 := cell_of hV 0
    have m1 := cell_of hV 1
    have m2 := cell_of hV 2
    have m3 := cell_of hV 3
    exact bodyPost_ret (v := .agg #[.slice (some ⟨g2, 0, none⟩) n cap2, .int .u16 en, .slice Ae ne ce, .slice Ab nb cb]) (by simp [results, Tryd.results10, go_sem] at m0 m1 m2 m3 ⊢; simp [m0, m1, m2, m3]) rfl ⟨g2, cap2, rfl, LE.out, (ROW.out V hU).1, (ROW.out V hU).2⟩
end Go.Proofs.YtabeljpnmmfpgaaDoor
