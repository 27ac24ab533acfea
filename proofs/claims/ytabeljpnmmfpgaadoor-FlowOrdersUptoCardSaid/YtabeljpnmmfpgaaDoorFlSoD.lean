/-
  Sorting a row of addresses: the patterns broken.
-/
import Derived.Test.YtabeljpnmmfpgaaDoorFlSort
import Derived.Test.YtabeljpnmmfpgaaDoorFlLen
namespace Go.Proofs.YtabeljpnmmfpgaaDoor
open Go.RowKit Go.MapKept
set_option linter.unusedVariables false
set_option linter.unusedSimpArgs false

theorem xorN (a b : Int) (h1 : 0 ≤ a) (h2 : a < 18446744073709551616) (h3 : 0 ≤ b) (h4 : b < 18446744073709551616) : ∃ y : Nat, bits .xor .u64 a b = (y : Int) ∧ y < 18446744073709551616 :=
  ⟨a.toNat ^^^ b.toNat, u64_xor a b h1 h2 h3 h4, Nat.xor_lt_two_pow (n := 64) (by omega) (by omega)⟩
theorem andN (a : Int) (m : Nat) (h1 : 0 ≤ a) (h2 : a < 18446744073709551616) (h4 : m < 18446744073709551616) : ∃ y : Nat, bits .and .u64 a (m : Int) = (y : Int) ∧ y ≤ m :=
  ⟨a.toNat &&& m, by rw [u64_and a m h1 h2 (by omega) (by omega), Int.toNat_natCast], Nat.and_le_right⟩
theorem wrapU (a : Int) : 0 ≤ IntKind.u64.wrap a ∧ IntKind.u64.wrap a < 18446744073709551616 := by
  have e : IntKind.u64.wrap a = a % 18446744073709551616 := by simp [IntKind.wrap, IntKind.bits, IntKind.signed]
  rw [e]; omega

set_option maxRecDepth 100000 in
set_option maxHeartbeats 4000000 in
theorem next_any (w : World) (s x : Nat) (h : w.heap[s]? = some (.cells #[.int .u64 (x : Int)] 145 (0, 0))) (h1 : x < 18446744073709551616) :
    Calls Tryd.prog 85 #[.pointer (some ⟨s, 0, none⟩)] w fun e w' => ∃ y : Nat, e = .returned (.int .u64 (y : Int)) ∧ y < 18446744073709551616 ∧ w'.heap[s]? = some (.cells #[.int .u64 (y : Int)] 145 (0, 0)) ∧ Upd w w' (fun i => i = s) := by
  have c0 : w.cell? ⟨s, 0, none⟩ = some (.int .u64 (x : Int)) := by rw [cell_of h]; rfl
  have f0 : w.frozen? ⟨s, 0, none⟩ = false := free_of h 0
  have H := Lib.hid h
  obtain ⟨v1, e1, l1⟩ := xorN (x : Int) (IntKind.u64.wrap ((x : Int) * 8192)) (by omega) (by omega) (wrapU _).1 (wrapU _).2
  obtain ⟨v2, e2, l2⟩ := xorN (v1 : Int) ((v1 : Int) / 128) (by omega) (by omega) (by omega) (by omega)
  obtain ⟨v3, e3, l3⟩ := xorN (v2 : Int) (IntKind.u64.wrap ((v2 : Int) * 131072)) (by omega) (by omega) (wrapU _).1 (wrapU _).2
  have E1 := Lib.hid e1; have E2 := Lib.hid e2; have E3 := Lib.hid e3
  have fin : Hid (∀ W', W' = (((w.setCell ⟨s, 0, none⟩ (.int .u64 (v1 : Int))).setCell ⟨s, 0, none⟩ (.int .u64 (v2 : Int))).setCell ⟨s, 0, none⟩ (.int .u64 (v3 : Int))).drew.drew.drew → W'.heap[s]? = some (.cells #[.int .u64 (v3 : Int)] 145 (0, 0)) ∧ Upd w W' (fun i => i = s)) := by
    rintro W' rfl
    refine ⟨?_, ((((((Upd.refl w (fun i => i = s)).setCell (p := ⟨s, 0, none⟩) (fun _ => rfl) _).setCell (p := ⟨s, 0, none⟩) (fun _ => rfl) _).setCell (p := ⟨s, 0, none⟩) (fun _ => rfl) _).drew).drew).drew⟩
    exact heap_set_cell (heap_set_cell (heap_set_cell h 0 _) 0 _) 0 _
  have c3 : (((w.setCell ⟨s, 0, none⟩ (.int .u64 (v1 : Int))).setCell ⟨s, 0, none⟩ (.int .u64 (v2 : Int))).setCell ⟨s, 0, none⟩ (.int .u64 (v3 : Int))).cell? ⟨s, 0, none⟩ = some (.int .u64 (v3 : Int)) := by
    rw [cell_of (heap_set_cell (heap_set_cell (heap_set_cell h 0 _) 0 _) 0 _)]; rfl
  clear h e1 e2 e3
  go_enter Tryd.func85, Tryd.ntmps85
  go_wp2_with (fail)
  go_region
  all_goals
    rw [E1.out]
    go_wp2_with (fail)
    go_region
    all_goals
      rw [E2.out]
      go_wp2_with (fail)
      go_region
      all_goals
        rw [E3.out]
        go_wp2_with (fail)
        go_ret
        exact ⟨v3, rfl, l3, fin.out _ rfl⟩

/-- The row, and the generator's state in a block of its own. -/
structure Sh (w W : World) (g n : Nat) (d : Nat → Int) (a b s : Nat) (e : Nat → Int) : Prop where
  rw : Rw w W g n e
  pm : Pm a b d e
  new : w.heap.size ≤ s
  ne : s ≠ g
  cell : ∃ x : Nat, W.heap[s]? = some (.cells #[.int .u64 (x : Int)] 145 (0, 0)) ∧ x < 18446744073709551616
theorem Sh.after {w W W' : World} {g n : Nat} {d : Nat → Int} {a b s : Nat} {e : Nat → Int} (h : Sh w W g n d a b s e) {y : Nat} (hc : W'.heap[s]? = some (.cells #[.int .u64 (y : Int)] 145 (0, 0))) (hy : y < 18446744073709551616) (hu : Upd W W' (fun i => i = s)) : Sh w W' g n d a b s e := by
  obtain ⟨⟨hu0, hz, cs, h1, h2⟩, hp, hn, hne, _⟩ := h
  refine ⟨⟨hu0.trans hu (fun i hi e => by have e' : i = s := e; omega), fun c0 c1 e0 e1 => hz c0 c1 e0 ((hu.block g (heap_lt h1) (fun e => hne e.symm)).symm.trans e1), cs, hu.keep h1 (fun e => hne e.symm), h2⟩, hp, hn, hne, y, hc, hy⟩
theorem Sh.swap {w W : World} {g n : Nat} {d : Nat → Int} {a b s : Nat} {e : Nat → Int} (h : Sh w W g n d a b s e) {i j : Nat} (hi : a ≤ i) (hi' : i < b) (hj : a ≤ j) (hj' : j < b) : Sh w (((W.setCell ⟨g, i, none⟩ (.int .u16 (e j))).setCell ⟨g, j, none⟩ (.int .u16 (e i))).drew) g n d a b s (sw e i j) := by
  obtain ⟨x, hx, hl⟩ := h.cell
  refine ⟨(h.rw.swap i j).quiet ⟨1, rfl⟩, h.pm.swap hi hi' hj hj', h.new, h.ne, x, ?_, hl⟩
  show ((W.setCell _ _).setCell _ _).heap[s]? = _
  rw [heap_set_far h.ne, heap_set_far h.ne]; exact hx

set_option maxRecDepth 100000 in
set_option maxHeartbeats 8000000 in
theorem breakPatterns_any (w : World) (g n c a b : Nat) (d : Nat → Int) (h : Rw w w g n d) (h8 : a + 8 ≤ b) (hb : b ≤ n) (hn : n < 65536) :
    Calls Tryd.prog 90 #[.slice (some ⟨g, 0, none⟩) n c, .int .i64 a, .int .i64 b] w fun e w' => e = .returned (.tuple #[]) ∧ Hid (∃ d', Rw w w' g n d' ∧ Pm a b d d') := by
  obtain ⟨l, hl⟩ : ∃ l, b = a + l := ⟨b - a, by omega⟩
  have l8 : 8 ≤ l := by omega
  have l16 : l < 65536 := by omega
  have hg := h.lt
  have st : Hid (Sh w (w.alloc (.cells #[.int .u64 (l : Int)] 145)) g n d a b w.heap.size d) := ⟨h.next ((Below.refl _ _).alloc (Nat.le_refl _) _), Pm.refl _ _ _, Nat.le_refl _, by omega, l, heap_alloc_at w _, by omega⟩
  have EL : Hid ((b : Int) - (a : Int) = (l : Int)) := show _ = _ by omega
  have wx : IntKind.u64.wrap ((b : Int) - (a : Int)) = (l : Int) := by rw [EL.out]; simp [IntKind.wrap, IntKind.bits, IntKind.signed]; omega
  have HL := Lib.hid hl
  have d8 : decide ((8 : Int) ≤ (b : Int) - (a : Int)) = true := by simp; omega
  have lb : a + l ≤ n := by omega
  clear h hl
  go_enter Tryd.func90, Tryd.ntmps90
  go_wp2_with (fail)
  rw [EL.out]
  refine (pow_any _ l (by omega) l16).mono ?_
  rintro e w1 ⟨m, rfl, m1, m2, rfl⟩
  generalize w.heap.size = s at *
  obtain ⟨W1, hW1⟩ : ∃ W1, W1 = w.alloc (.cells #[.int .u64 (l : Int)] 145) := ⟨_, rfl⟩
  rw [← hW1] at st ⊢
  clear hW1
  obtain ⟨p0, hp0⟩ : ∃ p0, p0 = a + l / 4 * 2 - 1 := ⟨_, rfl⟩
  have EP : Hid ((a : Int) + (l : Int) / 4 * 2 - 1 = (p0 : Int)) := show _ = _ by omega
  have hq1 : a ≤ p0 := by omega
  have hq2 : p0 + 3 ≤ a + l := by omega
  have EQ : Hid ((a : Int) + (l : Int) / 4 * 2 + 1 = (p0 : Int) + 2) := show _ = _ by omega
  have em : Hid ((m : Int) - 1 = ((m - 1 : Nat) : Int)) := show _ = _ by omega
  clear hp0
  go_wp2_with (fail)
  go_loopw [9, 10] (fun p q wr => ∃ k : Nat, p = .int .i64 k ∧ p0 ≤ k ∧ k ≤ p0 + 3 ∧ ∃ e, Hid (Sh w wr g n d a b s e)) (fun p _ _ => p0 + 3 - (intOf p).toNat)
  case atStart => exact ⟨p0, by rw [EP.out], Nat.le_refl _, by omega, d, st⟩
  case round =>
    obtain ⟨k, rfl, hk1, hk2, e, hr⟩ := hrel
    by_cases hlt : k < p0 + 3
    · have dg : decide ((k : Int) ≤ (a : Int) + (l : Int) / 4 * 2 + 1) = true := by rw [EQ.out]; simp; omega
      obtain ⟨x, hx, xl⟩ := hr.out.cell
      have HX := Lib.hid hx
      clear hx
      go_wp2_with (fail)
      refine (next_any wr s x HX.out xl).mono ?_
      rintro e1 w2 ⟨y, rfl, hy, hc, hu⟩
      have h2 := Lib.hid (hr.out.after hc hy hu)
      obtain ⟨z, ez, hz⟩ := andN (y : Int) (m - 1) (by omega) (by omega) (by omega)
      rw [← em.out] at ez
      have EZ := Lib.hid ez
      have wz := wrapN z (by omega)
      clear hc hu ez
      go_upto_region 8 with (fail)
      rw [EZ.out]
      rw [show wrap64 (z : Int) = (z : Int) by unfold wrap64; omega]
      by_cases hzl : z < l
      · have dz : decide ((l : Int) ≤ (z : Int)) = false := by simp; omega
        obtain ⟨o, ho⟩ : ∃ o, o = z := ⟨_, rfl⟩
        rw [← ho] at hzl dz wz ⊢
        clear ho
        have cj := h2.out.rw.cell (j := a + o) (by omega)
        have ci := h2.out.rw.cell (j := k) (by omega)
        have ff := h2.out.rw.free
        obtain ⟨u, hu⟩ : ∃ u, u = e k := ⟨_, rfl⟩
        obtain ⟨v, hv⟩ : ∃ v, v = e (a + o) := ⟨_, rfl⟩
        rw [← hu] at ci
        rw [← hv] at cj
        have sv := (h2.out.rw.set k v).cell (j := a + o) (by omega)
        obtain ⟨vv, hvv⟩ : ∃ vv, (w2.setCell ⟨g, k, none⟩ (.int .u16 v)).cell? ⟨g, a + o, none⟩ = some vv := ⟨_, sv⟩
        have z0 : (k : Int) < (n : Int) := by omega
        have z1 : (a : Int) + (o : Int) < (n : Int) := by omega
        have z2 : (0 : Int) ≤ (a : Int) + (o : Int) := by omega
        have nxt : Hid (∀ W', W' = ((w2.setCell ⟨g, k, none⟩ (.int .u16 v)).setCell ⟨g, a + o, none⟩ (.int .u16 u)).drew → Sh w W' g n d a b s (sw e k (a + o))) := by
          rintro W' rfl
          rw [hu, hv]
          exact h2.out.swap (by omega) (by have := HL.out; omega) (by omega) (by have := HL.out; omega)
        clear hu hv sv
        go_wp2_with (fail)
        go_region
        all_goals
          go_wp2_with (fail)
          go_roundw
          case rel => exact ⟨k + 1, by go_num, by omega, by omega, _, nxt.out _ rfl⟩
          case measure => first | (simp [intOf]; done) | (simp [intOf]; omega)
      · have dz : decide ((l : Int) ≤ (z : Int)) = true := by simp; omega
        obtain ⟨o, ho⟩ : ∃ o, z = l + o := ⟨z - l, by omega⟩
        have EO : Hid ((z : Int) - (l : Int) = (o : Int)) := show _ = _ by omega
        have ol : o < l := by omega
        clear ho
        go_upto_region 10 with (fail)
        rw [EO.out]
        clear dz EZ
        have cj := h2.out.rw.cell (j := a + o) (by omega)
        have ci := h2.out.rw.cell (j := k) (by omega)
        have ff := h2.out.rw.free
        obtain ⟨u, hu⟩ : ∃ u, u = e k := ⟨_, rfl⟩
        obtain ⟨v, hv⟩ : ∃ v, v = e (a + o) := ⟨_, rfl⟩
        rw [← hu] at ci
        rw [← hv] at cj
        have sv := (h2.out.rw.set k v).cell (j := a + o) (by omega)
        obtain ⟨vv, hvv⟩ : ∃ vv, (w2.setCell ⟨g, k, none⟩ (.int .u16 v)).cell? ⟨g, a + o, none⟩ = some vv := ⟨_, sv⟩
        have z0 : (k : Int) < (n : Int) := by omega
        have z1 : (a : Int) + (o : Int) < (n : Int) := by omega
        have z2 : (0 : Int) ≤ (a : Int) + (o : Int) := by omega
        have nxt : Hid (∀ W', W' = ((w2.setCell ⟨g, k, none⟩ (.int .u16 v)).setCell ⟨g, a + o, none⟩ (.int .u16 u)).drew → Sh w W' g n d a b s (sw e k (a + o))) := by
          rintro W' rfl
          rw [hu, hv]
          exact h2.out.swap (by omega) (by have := HL.out; omega) (by omega) (by have := HL.out; omega)
        clear hu hv sv
        go_wp2_with (fail)
        go_region
        all_goals
          go_wp2_with (fail)
          go_roundw
          case rel => exact ⟨k + 1, by go_num, by omega, by omega, _, nxt.out _ rfl⟩
          case measure => first | (simp [intOf]; done) | (simp [intOf]; omega)
    · have dg : decide ((k : Int) ≤ (a : Int) + (l : Int) / 4 * 2 + 1) = false := by rw [EQ.out]; simp; omega
      have fin : Hid (∃ d', Rw w wr g n d' ∧ Pm a b d d') := ⟨e, hr.out.rw, hr.out.pm⟩
      go_wp2_with (fail)
      first | go_end0 | refine bodyPost_ret (results_none rfl _ _ _) rfl ?_
      exact ⟨rfl, fin⟩
end Go.Proofs.YtabeljpnmmfpgaaDoor
