/-
  math/bits.Len of a short length; the power of two behind a length.
  Sorting a row of addresses: the patterns broken.
  Sorting a row of addresses: the heap.
  Sorting a row of addresses: pdqsort of any row of different addresses, slices.Sort.
  slices.Sort of nil; slices.Sorted of a set's keys, of a map's keys.
-/
import Derived.Lib.Hide
import Derived.Lib.Strings
import Derived.Lib.Slices
import Derived.Lib.Small
import Derived.Lib.Walk
import Derived.Lib.BitFns
import Derived.Test.YtabeljpnmmfpgaaDoorFlSet
import Derived.Test.YtabeljpnmmfpgaaDoorFlSort
import Derived.Test.YtabeljpnmmfpgaaDoorFlSoA
namespace Go.Proofs.YtabeljpnmmfpgaaDoor
open Go.RowKit Go.Maps Go.Sort Go.Shelf Go.MapKept Go.Proofs
set_option linter.unusedVariables false
set_option linter.unusedSimpArgs false

set_option maxRecDepth 100000 in
theorem tabSize : (Lib.len8tab.size : Int) = 256 := by
  have : Lib.len8tab.size = 256 := by decide
  omega
theorem bitLen_pow : ∀ y : Fin 256, y.val ≠ 0 → 2 ^ Lib.bitLen y.val ≤ 2 * y.val := by decide +kernel
theorem tabByte (x : Int) (h : x.toNat < Lib.len8tab.size) (h0 : 0 ≤ x) (h1 : x ≤ 255) : ∃ L : Nat, ((Lib.len8tab[x.toNat]'h).toNat : Int) = (L : Int) ∧ L ≤ 8 ∧ (x ≠ 0 → ((2 ^ L : Nat) : Int) ≤ 2 * x) := by
  refine ⟨Lib.bitLen x.toNat, ?_, Lib.bitLen_le8 ⟨x.toNat, by omega⟩, fun hx => ?_⟩
  · rw [← Lib.len8_of x h0 h1]
    unfold Lib.len8
    rw [getElem?_pos Lib.len8tab x.toNat h]
    rfl
  · have h2 := bitLen_pow ⟨x.toNat, by omega⟩ (by show x.toNat ≠ 0; omega)
    have h3 : 2 ^ Lib.bitLen x.toNat ≤ 2 * x.toNat := h2
    omega
theorem wrap_small (a : Nat) (h : a ≤ 100) : wrap64 (a : Int) = a := by unfold wrap64; omega
/-- How many bits a number has. -/
def LenIs (x : Int) (e : Ending) : Prop := ∃ L : Nat, e = .returned (.int .i64 (L : Int)) ∧ L ≤ 16 ∧ (x ≠ 0 → ((2 ^ L : Nat) : Int) ≤ 2 * x)

set_option maxHeartbeats 4000000 in
set_option maxRecDepth 100000 in
theorem len64_any (w : World) (x : Int) (h0 : 0 ≤ x) (h1 : x < 65536) : Calls Tryd.prog 80 #[.int .u64 x] w fun e w' => LenIs x e ∧ w' = w := by
  go_enter Tryd.func80, Tryd.ntmps80
  go_wp2
  all_goals first
    | (go_ret; refine ⟨?_, rfl⟩)
    | (exfalso; have hs := tabSize; omega)
  · have hs := tabSize
    obtain ⟨L, e1, e2, e4⟩ := tabByte (x / 256) (by omega) (by omega) (by omega)
    refine ⟨8 + L, ?_, by omega, fun hx => ?_⟩
    · have e3 : wrap64 (8 + (L : Int)) = ((8 + L : Nat) : Int) := by unfold wrap64; omega
      rw [e1, wrap_small L (by omega), e3]
      rfl
    · have h2 := e4 (by omega)
      have h3 : 2 ^ (8 + L) = 256 * 2 ^ L := by rw [Nat.pow_add]
      rw [h3]
      omega
  · have hs := tabSize
    obtain ⟨L, e1, e2, e4⟩ := tabByte x (by omega) (by omega) (by omega)
    refine ⟨L, ?_, by omega, e4⟩
    rw [e1, wrap_small L (by omega), wrap_small L (by omega)]
    rfl
theorem len_any (w : World) (x : Int) (h0 : 0 ≤ x) (h1 : x < 65536) : Calls Tryd.prog 58 #[.int .u64 x] w fun e w' => LenIs x e ∧ w' = w := by
  go_enter Tryd.func58, Tryd.ntmps58
  go_wp2_with (go_at_call 80; refine (len64_any _ _ h0 h1).mono ?_; rintro e w1 ⟨⟨L, rfl, hL, hp⟩, rfl⟩; have HP := Lib.hid hp; clear hp)
  go_ret
  exact ⟨⟨L, rfl, hL, HP.out⟩, rfl⟩

set_option maxHeartbeats 4000000 in
theorem pow_any (w : World) (l : Nat) (h8 : 1 ≤ l) (h16 : l < 65536) : Calls Tryd.prog 84 #[.int .i64 (l : Int)] w fun e w' => ∃ m : Nat, e = .returned (.int .u64 (m : Int)) ∧ 1 ≤ m ∧ m ≤ 2 * l ∧ w' = w := by
  have hb := Lib.hid (len_any w (l : Int) (by omega) (by omega))
  have wu : IntKind.u64.wrap (l : Int) = (l : Int) := by simp [IntKind.wrap, IntKind.bits, IntKind.signed]; omega
  go_enter Tryd.func84, Tryd.ntmps84
  go_wp2_with (fail)
  refine hb.out.mono ?_
  rintro e w1 ⟨⟨L, rfl, hL, hp⟩, rfl⟩
  have hp := hp (by omega)
  obtain ⟨m, hm⟩ : ∃ m, m = 2 ^ L := ⟨_, rfl⟩
  rw [← hm] at hp
  have HM := Lib.hid hm
  clear hm
  have hc : L = 0 ∨ L = 1 ∨ L = 2 ∨ L = 3 ∨ L = 4 ∨ L = 5 ∨ L = 6 ∨ L = 7 ∨ L = 8 ∨ L = 9 ∨ L = 10 ∨ L = 11 ∨ L = 12 ∨ L = 13 ∨ L = 14 ∨ L = 15 ∨ L = 16 := by omega
  rcases hc with rfl | rfl | rfl | rfl | rfl | rfl | rfl | rfl | rfl | rfl | rfl | rfl | rfl | rfl | rfl | rfl | rfl
  · have hm : m = 1 := HM.out
    subst hm
    clear HM
    go_wp2_with (fail)
    go_ret
    exact ⟨1, rfl, by omega, by omega, rfl⟩
  · have hm : m = 2 := HM.out
    subst hm
    clear HM
    go_wp2_with (fail)
    go_ret
    exact ⟨2, rfl, by omega, by omega, rfl⟩
  · have hm : m = 4 := HM.out
    subst hm
    clear HM
    go_wp2_with (fail)
    go_ret
    exact ⟨4, rfl, by omega, by omega, rfl⟩
  · have hm : m = 8 := HM.out
    subst hm
    clear HM
    go_wp2_with (fail)
    go_ret
    exact ⟨8, rfl, by omega, by omega, rfl⟩
  · have hm : m = 16 := HM.out
    subst hm
    clear HM
    go_wp2_with (fail)
    go_ret
    exact ⟨16, rfl, by omega, by omega, rfl⟩
  · have hm : m = 32 := HM.out
    subst hm
    clear HM
    go_wp2_with (fail)
    go_ret
    exact ⟨32, rfl, by omega, by omega, rfl⟩
  · have hm : m = 64 := HM.out
    subst hm
    clear HM
    go_wp2_with (fail)
    go_ret
    exact ⟨64, rfl, by omega, by omega, rfl⟩
  · have hm : m = 128 := HM.out
    subst hm
    clear HM
    go_wp2_with (fail)
    go_ret
    exact ⟨128, rfl, by omega, by omega, rfl⟩
  · have hm : m = 256 := HM.out
    subst hm
    clear HM
    go_wp2_with (fail)
    go_ret
    exact ⟨256, rfl, by omega, by omega, rfl⟩
  · have hm : m = 512 := HM.out
    subst hm
    clear HM
    go_wp2_with (fail)
    go_ret
    exact ⟨512, rfl, by omega, by omega, rfl⟩
  · have hm : m = 1024 := HM.out
    subst hm
    clear HM
    go_wp2_with (fail)
    go_ret
    exact ⟨1024, rfl, by omega, by omega, rfl⟩
  · have hm : m = 2048 := HM.out
    subst hm
    clear HM
    go_wp2_with (fail)
    go_ret
    exact ⟨2048, rfl, by omega, by omega, rfl⟩
  · have hm : m = 4096 := HM.out
    subst hm
    clear HM
    go_wp2_with (fail)
    go_ret
    exact ⟨4096, rfl, by omega, by omega, rfl⟩
  · have hm : m = 8192 := HM.out
    subst hm
    clear HM
    go_wp2_with (fail)
    go_ret
    exact ⟨8192, rfl, by omega, by omega, rfl⟩
  · have hm : m = 16384 := HM.out
    subst hm
    clear HM
    go_wp2_with (fail)
    go_ret
    exact ⟨16384, rfl, by omega, by omega, rfl⟩
  · have hm : m = 32768 := HM.out
    subst hm
    clear HM
    go_wp2_with (fail)
    go_ret
    exact ⟨32768, rfl, by omega, by omega, rfl⟩
  · have hm : m = 65536 := HM.out
    subst hm
    clear HM
    go_wp2_with (fail)
    go_ret
    exact ⟨65536, rfl, by omega, by omega, rfl⟩
end Go.Proofs.YtabeljpnmmfpgaaDoor

namespace Go.Proofs.YtabeljpnmmfpgaaDoor
open Go.RowKit Go.MapKept
set_option linter.unusedVariables false
set_option linter.unusedSimpArgs false

theorem xorN (a b : Int) (h1 : 0 ≤ a) (h2 : a < 18446744073709551616) (h3 : 0 ≤ b) (h4 : b < 18446744073709551616) : ∃ y : Nat, bits .xor .u64 a b = (y : Int) ∧ y < 18446744073709551616 :=
  ⟨a.toNat ^^^ b.toNat, u64_xor a b h1 h2 h3 h4, Nat.xor_lt_two_pow (n := 64) (by omega) (by omega)⟩
theorem andN (a : Int) (m : Nat) (h1 : 0 ≤ a) (h2 : a < 18446744073709551616) (h4 : m < 18446744073709551616) : ∃ y : Nat, bits .and .u64 a (m : Int) = (y : Int) ∧ y ≤ m :=
  ⟨a.toNat &&& m, by rw [u64_and a m h1 h2 (by omega) (by omega), Int.toNat_natCast], Nat.and_le_right⟩
theorem wrapU (a : Int) : 0 ≤ IntKind.u64.wrap a ∧ IntKind.u64.wrap a < 18446744073709551616 := by
  have e : IntKind.u64.wrap a = a % 18446744073709551616 := by simp [IntKind.wrap, IntKind.bits, IntKind.signed]
  rw [e]; omega

set_option maxRecDepth 100000 in
set_option maxHeartbeats 4000000 in
theorem next_any (w : World) (s x : Nat) (h : w.heap[s]? = some (.cells #[.int .u64 (x : Int)] 145 (0, 0))) (h1 : x < 18446744073709551616) :
    Calls Tryd.prog 85 #[.pointer (some ⟨s, 0, none⟩)] w fun e w' => ∃ y : Nat, e = .returned (.int .u64 (y : Int)) ∧ y < 18446744073709551616 ∧ w'.heap[s]? = some (.cells #[.int .u64 (y : Int)] 145 (0, 0)) ∧ Upd w w' (fun i => i = s) := by
  have c0 : w.cell? ⟨s, 0, none⟩ = some (.int .u64 (x : Int)) := by rw [cell_of h]; rfl
  have f0 : w.frozen? ⟨s, 0, none⟩ = false := free_of h 0
  have H := Lib.hid h
  obtain ⟨v1, e1, l1⟩ := xorN (x : Int) (IntKind.u64.wrap ((x : Int) * 8192)) (by omega) (by omega) (wrapU _).1 (wrapU _).2
  obtain ⟨v2, e2, l2⟩ := xorN (v1 : Int) ((v1 : Int) / 128) (by omega) (by omega) (by omega) (by omega)
  obtain ⟨v3, e3, l3⟩ := xorN (v2 : Int) (IntKind.u64.wrap ((v2 : Int) * 131072)) (by omega) (by omega) (wrapU _).1 (wrapU _).2
  have E1 := Lib.hid e1; have E2 := Lib.hid e2; have E3 := Lib.hid e3
  have fin : Hid (∀ W', W' = (((w.setCell ⟨s, 0, none⟩ (.int .u64 (v1 : Int))).setCell ⟨s, 0, none⟩ (.int .u64 (v2 : Int))).setCell ⟨s, 0, none⟩ (.int .u64 (v3 : Int))).drew.drew.drew → W'.heap[s]? = some (.cells #[.int .u64 (v3 : Int)] 145 (0, 0)) ∧ Upd w W' (fun i => i = s)) := by
    rintro W' rfl
    refine ⟨?_, ((((((Upd.refl w (fun i => i = s)).setCell (p := ⟨s, 0, none⟩) (fun _ => rfl) _).setCell (p := ⟨s, 0, none⟩) (fun _ => rfl) _).setCell (p := ⟨s, 0, none⟩) (fun _ => rfl) _).drew).drew).drew⟩
    exact heap_set_cell (heap_set_cell (heap_set_cell h 0 _) 0 _) 0 _
  have c3 : (((w.setCell ⟨s, 0, none⟩ (.int .u64 (v1 : Int))).setCell ⟨s, 0, none⟩ (.int .u64 (v2 : Int))).setCell ⟨s, 0, none⟩ (.int .u64 (v3 : Int))).cell? ⟨s, 0, none⟩ = some (.int .u64 (v3 : Int)) := by
    rw [cell_of (heap_set_cell (heap_set_cell (heap_set_cell h 0 _) 0 _) 0 _)]; rfl
  clear h e1 e2 e3
  go_enter Tryd.func85, Tryd.ntmps85
  go_wp2_with (fail)
  go_region
  all_goals
    rw [E1.out]
    go_wp2_with (fail)
    go_region
    all_goals
      rw [E2.out]
      go_wp2_with (fail)
      go_region
      all_goals
        rw [E3.out]
        go_wp2_with (fail)
        go_ret
        exact ⟨v3, rfl, l3, fin.out _ rfl⟩

/-- The row, and the generator's state in a block of its own. -/
structure Sh (w W : World) (g n : Nat) (d : Nat → Int) (a b s : Nat) (e : Nat → Int) : Prop where
  rw : Rw w W g n e
  pm : Pm a b d e
  new : w.heap.size ≤ s
  ne : s ≠ g
  cell : ∃ x : Nat, W.heap[s]? = some (.cells #[.int .u64 (x : Int)] 145 (0, 0)) ∧ x < 18446744073709551616
theorem Sh.after {w W W' : World} {g n : Nat} {d : Nat → Int} {a b s : Nat} {e : Nat → Int} (h : Sh w W g n d a b s e) {y : Nat} (hc : W'.heap[s]? = some (.cells #[.int .u64 (y : Int)] 145 (0, 0))) (hy : y < 18446744073709551616) (hu : Upd W W' (fun i => i = s)) : Sh w W' g n d a b s e := by
  obtain ⟨⟨hu0, hz, cs, h1, h2⟩, hp, hn, hne, _⟩ := h
  refine ⟨⟨hu0.trans hu (fun i hi e => by have e' : i = s := e; omega), fun c0 c1 e0 e1 => hz c0 c1 e0 ((hu.block g (heap_lt h1) (fun e => hne e.symm)).symm.trans e1), cs, hu.keep h1 (fun e => hne e.symm), h2⟩, hp, hn, hne, y, hc, hy⟩
theorem Sh.swap {w W : World} {g n : Nat} {d : Nat → Int} {a b s : Nat} {e : Nat → Int} (h : Sh w W g n d a b s e) {i j : Nat} (hi : a ≤ i) (hi' : i < b) (hj : a ≤ j) (hj' : j < b) : Sh w (((W.setCell ⟨g, i, none⟩ (.int .u16 (e j))).setCell ⟨g, j, none⟩ (.int .u16 (e i))).drew) g n d a b s (sw e i j) := by
  obtain ⟨x, hx, hl⟩ := h.cell
  refine ⟨(h.rw.swap i j).quiet ⟨1, rfl⟩, h.pm.swap hi hi' hj hj', h.new, h.ne, x, ?_, hl⟩
  show ((W.setCell _ _).setCell _ _).heap[s]? = _
  rw [heap_set_far h.ne, heap_set_far h.ne]; exact hx

set_option maxRecDepth 100000 in
set_option maxHeartbeats 8000000 in
theorem breakPatterns_any (w : World) (g n c a b : Nat) (d : Nat → Int) (h : Rw w w g n d) (h8 : a + 8 ≤ b) (hb : b ≤ n) (hn : n < 65536) :
    Calls Tryd.prog 90 #[.slice (some ⟨g, 0, none⟩) n c, .int .i64 a, .int .i64 b] w fun e w' => e = .returned (.tuple #[]) ∧ Hid (∃ d', Rw w w' g n d' ∧ Pm a b d d') := by
  obtain ⟨l, hl⟩ : ∃ l, b = a + l := ⟨b - a, by omega⟩
  have l8 : 8 ≤ l := by omega
  have l16 : l < 65536 := by omega
  have hg := h.lt
  have st : Hid (Sh w (w.alloc (.cells #[.int .u64 (l : Int)] 145)) g n d a b w.heap.size d) := ⟨h.next ((Below.refl _ _).alloc (Nat.le_refl _) _), Pm.refl _ _ _, Nat.le_refl _, by omega, l, heap_alloc_at w _, by omega⟩
  have EL : Hid ((b : Int) - (a : Int) = (l : Int)) := show _ = _ by omega
  have wx : IntKind.u64.wrap ((b : Int) - (a : Int)) = (l : Int) := by rw [EL.out]; simp [IntKind.wrap, IntKind.bits, IntKind.signed]; omega
  have HL := Lib.hid hl
  have d8 : decide ((8 : Int) ≤ (b : Int) - (a : Int)) = true := by simp; omega
  have lb : a + l ≤ n := by omega
  clear h hl
  go_enter Tryd.func90, Tryd.ntmps90
  go_wp2_with (fail)
  rw [EL.out]
  refine (pow_any _ l (by omega) l16).mono ?_
  rintro e w1 ⟨m, rfl, m1, m2, rfl⟩
  generalize w.heap.size = s at *
  obtain ⟨W1, hW1⟩ : ∃ W1, W1 = w.alloc (.cells #[.int .u64 (l : Int)] 145) := ⟨_, rfl⟩
  rw [← hW1] at st ⊢
  clear hW1
  obtain ⟨p0, hp0⟩ : ∃ p0, p0 = a + l / 4 * 2 - 1 := ⟨_, rfl⟩
  have EP : Hid ((a : Int) + (l : Int) / 4 * 2 - 1 = (p0 : Int)) := show _ = _ by omega
  have hq1 : a ≤ p0 := by omega
  have hq2 : p0 + 3 ≤ a + l := by omega
  have EQ : Hid ((a : Int) + (l : Int) / 4 * 2 + 1 = (p0 : Int) + 2) := show _ = _ by omega
  have em : Hid ((m : Int) - 1 = ((m - 1 : Nat) : Int)) := show _ = _ by omega
  clear hp0
  go_wp2_with (fail)
  go_loopw [9, 10] (fun p q wr => ∃ k : Nat, p = .int .i64 k ∧ p0 ≤ k ∧ k ≤ p0 + 3 ∧ ∃ e, Hid (Sh w wr g n d a b s e)) (fun p _ _ => p0 + 3 - (intOf p).toNat)
  case atStart => exact ⟨p0, by rw [EP.out], Nat.le_refl _, by omega, d, st⟩
  case round =>
    obtain ⟨k, rfl, hk1, hk2, e, hr⟩ := hrel
    by_cases hlt : k < p0 + 3
    · have dg : decide ((k : Int) ≤ (a : Int) + (l : Int) / 4 * 2 + 1) = true := by rw [EQ.out]; simp; omega
      obtain ⟨x, hx, xl⟩ := hr.out.cell
      have HX := Lib.hid hx
      clear hx
      go_wp2_with (fail)
      refine (next_any wr s x HX.out xl).mono ?_
      rintro e1 w2 ⟨y, rfl, hy, hc, hu⟩
      have h2 := Lib.hid (hr.out.after hc hy hu)
      obtain ⟨z, ez, hz⟩ := andN (y : Int) (m - 1) (by omega) (by omega) (by omega)
      rw [← em.out] at ez
      have EZ := Lib.hid ez
      have wz := wrapN z (by omega)
      clear hc hu ez
      go_upto_region 8 with (fail)
      rw [EZ.out]
      rw [show wrap64 (z : Int) = (z : Int) by unfold wrap64; omega]
      by_cases hzl : z < l
      · have dz : decide ((l : Int) ≤ (z : Int)) = false := by simp; omega
        obtain ⟨o, ho⟩ : ∃ o, o = z := ⟨_, rfl⟩
        rw [← ho] at hzl dz wz ⊢
        clear ho
        have cj := h2.out.rw.cell (j := a + o) (by omega)
        have ci := h2.out.rw.cell (j := k) (by omega)
        have ff := h2.out.rw.free
        obtain ⟨u, hu⟩ : ∃ u, u = e k := ⟨_, rfl⟩
        obtain ⟨v, hv⟩ : ∃ v, v = e (a + o) := ⟨_, rfl⟩
        rw [← hu] at ci
        rw [← hv] at cj
        have sv := (h2.out.rw.set k v).cell (j := a + o) (by omega)
        obtain ⟨vv, hvv⟩ : ∃ vv, (w2.setCell ⟨g, k, none⟩ (.int .u16 v)).cell? ⟨g, a + o, none⟩ = some vv := ⟨_, sv⟩
        have z0 : (k : Int) < (n : Int) := by omega
        have z1 : (a : Int) + (o : Int) < (n : Int) := by omega
        have z2 : (0 : Int) ≤ (a : Int) + (o : Int) := by omega
        have nxt : Hid (∀ W', W' = ((w2.setCell ⟨g, k, none⟩ (.int .u16 v)).setCell ⟨g, a + o, none⟩ (.int .u16 u)).drew → Sh w W' g n d a b s (sw e k (a + o))) := by
          rintro W' rfl
          rw [hu, hv]
          exact h2.out.swap (by omega) (by have := HL.out; omega) (by omega) (by have := HL.out; omega)
        clear hu hv sv
        go_wp2_with (fail)
        go_region
        all_goals
          go_wp2_with (fail)
          go_roundw
          case rel => exact ⟨k + 1, by go_num, by omega, by omega, _, nxt.out _ rfl⟩
          case measure => first | (simp [intOf]; done) | (simp [intOf]; omega)
      · have dz : decide ((l : Int) ≤ (z : Int)) = true := by simp; omega
        obtain ⟨o, ho⟩ : ∃ o, z = l + o := ⟨z - l, by omega⟩
        have EO : Hid ((z : Int) - (l : Int) = (o : Int)) := show _ = _ by omega
        have ol : o < l := by omega
        clear ho
        go_upto_region 10 with (fail)
        rw [EO.out]
        clear dz EZ
        have cj := h2.out.rw.cell (j := a + o) (by omega)
        have ci := h2.out.rw.cell (j := k) (by omega)
        have ff := h2.out.rw.free
        obtain ⟨u, hu⟩ : ∃ u, u = e k := ⟨_, rfl⟩
        obtain ⟨v, hv⟩ : ∃ v, v = e (a + o) := ⟨_, rfl⟩
        rw [← hu] at ci
        rw [← hv] at cj
        have sv := (h2.out.rw.set k v).cell (j := a + o) (by omega)
        obtain ⟨vv, hvv⟩ : ∃ vv, (w2.setCell ⟨g, k, none⟩ (.int .u16 v)).cell? ⟨g, a + o, none⟩ = some vv := ⟨_, sv⟩
        have z0 : (k : Int) < (n : Int) := by omega
        have z1 : (a : Int) + (o : Int) < (n : Int) := by omega
        have z2 : (0 : Int) ≤ (a : Int) + (o : Int) := by omega
        have nxt : Hid (∀ W', W' = ((w2.setCell ⟨g, k, none⟩ (.int .u16 v)).setCell ⟨g, a + o, none⟩ (.int .u16 u)).drew → Sh w W' g n d a b s (sw e k (a + o))) := by
          rintro W' rfl
          rw [hu, hv]
          exact h2.out.swap (by omega) (by have := HL.out; omega) (by omega) (by have := HL.out; omega)
        clear hu hv sv
        go_wp2_with (fail)
        go_region
        all_goals
          go_wp2_with (fail)
          go_roundw
          case rel => exact ⟨k + 1, by go_num, by omega, by omega, _, nxt.out _ rfl⟩
          case measure => first | (simp [intOf]; done) | (simp [intOf]; omega)
    · have dg : decide ((k : Int) ≤ (a : Int) + (l : Int) / 4 * 2 + 1) = false := by rw [EQ.out]; simp; omega
      have fin : Hid (∃ d', Rw w wr g n d' ∧ Pm a b d d') := ⟨e, hr.out.rw, hr.out.pm⟩
      go_wp2_with (fail)
      first | go_end0 | refine bodyPost_ret (results_none rfl _ _ _) rfl ?_
      exact ⟨rfl, fin⟩
end Go.Proofs.YtabeljpnmmfpgaaDoor

namespace Go.Proofs.YtabeljpnmmfpgaaDoor
open Go.RowKit Go.MapKept
set_option linter.unusedVariables false
set_option linter.unusedSimpArgs false

/-- From lo on none is less than its children (the heap's root lies at f). -/
def Hp (f lo hi : Nat) (e : Nat → Int) : Prop := ∀ p c, lo ≤ p → (c = 2 * p + 1 ∨ c = 2 * p + 2) → c < hi → e (f + c) ≤ e (f + p)
/-- But for r this is so, and r's parent is not less than r's children. -/
def SD (f lo hi r : Nat) (e : Nat → Int) : Prop :=
  (∀ p c, lo ≤ p → p ≠ r → (c = 2 * p + 1 ∨ c = 2 * p + 2) → c < hi → e (f + c) ≤ e (f + p)) ∧
  (∀ p c, lo ≤ p → (r = 2 * p + 1 ∨ r = 2 * p + 2) → (c = 2 * r + 1 ∨ c = 2 * r + 2) → c < hi → e (f + c) ≤ e (f + p))
theorem SD.start {f lo hi : Nat} {e : Nat → Int} (h : Hp f (lo + 1) hi e) : SD f lo hi lo e :=
  ⟨fun p c h1 h2 h3 h4 => h p c (by omega) h3 h4, fun p c h1 h2 h3 h4 => by omega⟩
theorem SD.done {f lo hi r : Nat} {e : Nat → Int} (h : SD f lo hi r e) (hr : ∀ c, (c = 2 * r + 1 ∨ c = 2 * r + 2) → c < hi → e (f + c) ≤ e (f + r)) : Hp f lo hi e := fun p c h1 h2 h3 => by
  by_cases e1 : p = r
  · subst e1; exact hr c h2 h3
  · exact h.1 p c h1 e1 h2 h3
theorem SD.step {f lo hi r c : Nat} {e : Nat → Int} (h : SD f lo hi r e) (hl : lo ≤ r) (hc : c = 2 * r + 1 ∨ c = 2 * r + 2) (hch : c < hi) (hm : ∀ c', (c' = 2 * r + 1 ∨ c' = 2 * r + 2) → c' < hi → e (f + c') ≤ e (f + c)) (hlt : e (f + r) < e (f + c)) : SD f lo hi c (sw e (f + r) (f + c)) := by
  have E : ∀ k, sw e (f + r) (f + c) (f + k) = if k = r then e (f + c) else if k = c then e (f + r) else e (f + k) := fun k => by
    unfold sw
    by_cases e1 : k = r
    · rw [if_pos (by omega), if_pos e1]
    · rw [if_neg (by omega), if_neg e1]
      by_cases e2 : k = c
      · rw [if_pos (by omega), if_pos e2]
      · rw [if_neg (by omega), if_neg e2]
  obtain ⟨h1, h2⟩ := h
  constructor
  · intro p k hp hpc hk hkh
    rw [E, E]
    by_cases p1 : p = r
    · rw [if_pos p1, if_neg (by omega)]
      by_cases k2 : k = c
      · rw [if_pos k2]; omega
      · rw [if_neg k2]; exact hm k (by omega) hkh
    · rw [if_neg p1, if_neg hpc]
      by_cases k1 : k = r
      · rw [if_pos k1]
        exact h2 p c hp (by omega) hc hch
      · rw [if_neg k1, if_neg (by omega)]
        exact h1 p k hp p1 hk hkh
  · intro p k hp hpc hk hkh
    have e1 : p = r := by omega
    rw [E, E, if_neg (by omega), if_neg (by omega), if_pos e1]
    exact h1 c k (by omega) (by omega) hk hkh
theorem Hp.top {f hi : Nat} {e : Nat → Int} (h : Hp f 0 hi e) : ∀ N k, k ≤ N → k < hi → e (f + k) ≤ e f
  | 0, k, hN, _ => by
    have : k = 0 := by omega
    rw [this]; exact Int.le_refl _
  | N + 1, k, hN, hk => by
    by_cases k0 : k = 0
    · rw [k0]; exact Int.le_refl _
    · have h1 := h ((k - 1) / 2) k (by omega) (by omega) hk
      exact Int.le_trans h1 (Hp.top h N ((k - 1) / 2) (by omega) (by omega))
/-- While the greatest are taken out: the first i are a heap, the others stand in their places. -/
def HS (f hi i : Nat) (e : Nat → Int) : Prop := Hp f 0 i e ∧ ∀ x y, x ≤ y → i ≤ y → y < hi → e (f + x) ≤ e (f + y)
theorem HS.pop {f hi i : Nat} {e : Nat → Int} (h : HS f hi (i + 1) e) : Hp f 1 i (sw e f (f + i)) ∧ ∀ x y, x ≤ y → i ≤ y → y < hi → sw e f (f + i) (f + x) ≤ sw e f (f + i) (f + y) := by
  have E : ∀ k, sw e f (f + i) (f + k) = if k = 0 then e (f + i) else if k = i then e f else e (f + k) := fun k => by
    unfold sw
    by_cases e1 : k = 0
    · rw [if_pos (by omega), if_pos e1]
    · rw [if_neg (by omega), if_neg e1]
      by_cases e2 : k = i
      · rw [if_pos (by omega), if_pos e2]
      · rw [if_neg (by omega), if_neg e2]
  obtain ⟨h1, h2⟩ := h
  have T := h1.top i
  constructor
  · intro p c hp hc hch
    rw [E, E, if_neg (by omega), if_neg (by omega), if_neg (by omega), if_neg (by omega)]
    exact h1 p c (by omega) hc (by omega)
  · intro x y hxy hy hyh
    rw [E, E]
    by_cases x0 : x = 0
    · rw [if_pos x0]
      by_cases y0 : y = 0
      · rw [if_pos y0]; exact Int.le_refl _
      · rw [if_neg y0]
        by_cases yi : y = i
        · rw [if_pos yi]; exact T i (Nat.le_refl _) (by omega)
        · rw [if_neg yi]; exact h2 i y (by omega) (by omega) hyh
    · rw [if_neg x0, if_neg (by omega : ¬ y = 0)]
      by_cases xi : x = i
      · rw [if_pos xi]
        by_cases yi : y = i
        · rw [if_pos yi]; exact Int.le_refl _
        · rw [if_neg yi]; exact h2 0 y (by omega) (by omega) hyh
      · rw [if_neg xi]
        by_cases yi : y = i
        · rw [if_pos yi]; exact T x (by omega) (by omega)
        · rw [if_neg yi]; exact h2 x y hxy (by omega) hyh
theorem HS.next {f hi i : Nat} {e e' : Nat → Int} (h2 : ∀ x y, x ≤ y → i ≤ y → y < hi → e (f + x) ≤ e (f + y)) (hp : Pm (f + 0) (f + i) e e') (h1 : Hp f 0 i e') : HS f hi i e' := by
  refine ⟨h1, fun x y hxy hy hyh => ?_⟩
  rw [hp.out (f + y) (by omega)]
  by_cases hx : x < i
  · obtain ⟨m, m1, m2, m3⟩ := hp.mem (f + x) (by omega) (by omega)
    rw [m3]
    have := h2 (m - f) y (by omega) hy hyh
    rwa [show f + (m - f) = m by omega] at this
  · rw [hp.out (f + x) (by omega)]; exact h2 x y hxy hy hyh
theorem HS.done {f hi : Nat} {e : Nat → Int} (h : HS f hi 0 e) : Asc f (f + hi) e := fun x y h1 h2 h3 => by
  have := h.2 (x - f) (y - f) (by omega) (by omega) (by omega)
  rwa [show f + (x - f) = x by omega, show f + (y - f) = y by omega] at this
set_option maxRecDepth 100000 in
set_option maxHeartbeats 8000000 in
theorem sift_any (w : World) (g n c f lo hi : Nat) (d : Nat → Int) (h : Rw w w g n d) (hh : Hp f (lo + 1) hi d) (hf : f + hi ≤ n) (hlo : lo ≤ hi) (hn : n < 65536) :
    Calls Tryd.prog 98 #[.slice (some ⟨g, 0, none⟩) n c, .int .i64 lo, .int .i64 hi, .int .i64 f] w fun e w' => e = .returned (.tuple #[]) ∧ Hid (∃ d', Rw w w' g n d' ∧ Pm (f + lo) (f + hi) d d' ∧ Hp f lo hi d') := by
  have H := Lib.hid h
  have HH := Lib.hid hh
  clear h hh
  go_enter Tryd.func98, Tryd.ntmps98
  go_wp2_with (fail)
  go_loopw [8] (fun p wr => ∃ r : Nat, p = .int .i64 r ∧ lo ≤ r ∧ (r < hi ∨ r = lo) ∧ ∃ e, Hid (Rw w wr g n e ∧ Pm (f + lo) (f + hi) d e ∧ SD f lo hi r e)) (fun p _ => hi - (intOf p).toNat)
  case atStart => exact ⟨lo, rfl, Nat.le_refl _, .inr rfl, d, H.out, Pm.refl _ _ _, SD.start HH.out⟩
  case round =>
    obtain ⟨r, rfl, hr1, hr2, e, hrel⟩ := hrel
    obtain ⟨q, hq⟩ : ∃ q, q = 2 * r + 1 := ⟨_, rfl⟩
    have EQ : Hid (2 * (r : Int) + 1 = (q : Int)) := show _ = _ by omega
    have EQ0 := Lib.hid hq
    have hrq : r < q := by omega
    have hq2 : q = r + r + 1 := by omega
    have hq3 := Lib.hid hq2
    clear hq hq2
    by_cases h1 : q < hi
    · have dg1 : decide ((hi : Int) ≤ 2 * (r : Int) + 1) = false := by rw [EQ.out]; simp; omega
      have f0 := hrel.out.1.free
      have cz := hrel.out.1.cell (j := f + r) (by omega)
      have cq := hrel.out.1.cell (j := f + q) (by omega)
      obtain ⟨z, hz⟩ : ∃ z, z = e (f + r) := ⟨_, rfl⟩
      obtain ⟨x, hx⟩ : ∃ x, x = e (f + q) := ⟨_, rfl⟩
      rw [← hz] at cz; rw [← hx] at cq
      have HZ := Lib.hid hz; have HX := Lib.hid hx
      have b0 : (f : Int) + (r : Int) < (n : Int) := by omega
      have b1 : (f : Int) + (q : Int) < (n : Int) := by omega
      clear hz hx
      by_cases h2 : q + 1 < hi
      · have dg2 : decide ((q : Int) + 1 < (hi : Int)) = true := by simp; omega
        have cy := hrel.out.1.cell (j := f + q + 1) (by omega)
        obtain ⟨y, hy⟩ : ∃ y, y = e (f + q + 1) := ⟨_, rfl⟩
        rw [← hy] at cy
        have HY := Lib.hid hy
        have b2 : (f : Int) + (q : Int) + 1 < (n : Int) := by omega
        clear hy
        by_cases hxy : x < y
        · have d0 : decide (x < y) = true := by simpa using hxy
          go_upto_region 3 with (fail)
          rw [EQ.out]
          go_big_quiet (first | (go_at_call 94; refine Calls.quiet_of_same (less_any _ _ _)))
          obtain ⟨q2, hq2⟩ : ∃ q2, q2 = q + 1 := ⟨_, rfl⟩
          have EQ2 : Hid ((q : Int) + 1 = (q2 : Int)) := show _ = _ by omega
          go_upto_region 5 with (fail)
          rw [EQ2.out]
          have hm : ∀ c', (c' = 2 * r + 1 ∨ c' = 2 * r + 2) → c' < hi → e (f + c') ≤ e (f + q2) := fun c' hc _ => by
            have k1 := EQ0.out
            have ex := HX.out; have ey := HY.out
            rcases hc with hc | hc
            · have : c' = q := by omega
              rw [this, hq2, show f + (q + 1) = f + q + 1 by omega]; omega
            · have : c' = q2 := by omega
              rw [this]; exact Int.le_refl _
          have HM := Lib.hid hm
          have cy : wr.cell? ⟨g, f + q2, none⟩ = some (.int .u16 y) := by rw [hq2, show f + (q + 1) = f + q + 1 by omega]; exact cy
          have HU : Hid (y = e (f + q2)) := by rw [hq2, show f + (q + 1) = f + q + 1 by omega]; exact HY
          have b3 : (f : Int) + (q2 : Int) < (n : Int) := by omega
          have q2r : r < q2 := by omega
          have q2h : q2 < hi := by omega
          have EQ3 := Lib.hid hq2
          clear hm hq2
          obtain ⟨u, hu⟩ : ∃ u, u = y := ⟨_, rfl⟩
          subst hu
          generalize hW0 : World.drewN wr _ = W0
          have HR0 : Hid (Rw w W0 g n e) := hW0 ▸ hrel.out.1.quiet ⟨_, rfl⟩
          have f0 := HR0.out.free
          have cz : W0.cell? ⟨g, f + r, none⟩ = some (.int .u16 z) := hW0 ▸ cz
          have cu : W0.cell? ⟨g, f + q2, none⟩ = some (.int .u16 u) := hW0 ▸ cy
          clear hW0
          have hsw : Hid (∀ nq W', W' = ((W0.drewN nq).setCell ⟨g, f + r, none⟩ (.int .u16 u)).setCell ⟨g, f + q2, none⟩ (.int .u16 z) → z < u → Rw w W' g n (sw e (f + r) (f + q2)) ∧ Pm (f + lo) (f + hi) d (sw e (f + r) (f + q2)) ∧ SD f lo hi q2 (sw e (f + r) (f + q2))) := by
            rintro nq W' rfl hlt
            have qq : Rw w (W0.drewN nq) g n e := HR0.out.quiet ⟨nq, rfl⟩
            have := qq.swap (f + r) (f + q2)
            rw [HU.out, HZ.out]
            exact ⟨this, hrel.out.2.1.swap (by omega) (by omega) (by omega) (by omega), hrel.out.2.2.step hr1 (by have := EQ0.out; have := EQ3.out; omega) (by omega) HM.out (by rw [← HU.out, ← HZ.out]; exact hlt)⟩
          by_cases hl : z < u
          · have d1 : decide (z < u) = true := by simpa using hl
            go_wp2_with (fail)
            go_big_quiet (first | (go_at_call 94; refine Calls.quiet_of_same (less_any _ _ _)))
            go_wp2_with (fail)
            go_region
            all_goals
              go_wp2_with (fail)
              go_roundw
              case rel => exact ⟨q2, rfl, by omega, .inl (by omega), _, hsw.out _ _ rfl hl⟩
              case measure => first | (simp [intOf]; done) | (simp [intOf]; omega)
          · have d1 : decide (z < u) = false := by simpa using hl
            have fin : Hid (∀ nq, ∃ d', Rw w (W0.drewN nq) g n d' ∧ Pm (f + lo) (f + hi) d d' ∧ Hp f lo hi d') := fun nq =>
              ⟨e, HR0.out.quiet ⟨nq, rfl⟩, hrel.out.2.1, hrel.out.2.2.done (fun c' h1 h2 => Int.le_trans (HM.out c' h1 h2) (by rw [← HU.out, ← HZ.out]; omega))⟩
            go_wp2_with (fail)
            go_big_quiet (first | (go_at_call 94; refine Calls.quiet_of_same (less_any _ _ _)))
            go_wp2_with (fail)
            first | go_end0 | refine bodyPost_ret (results_none rfl _ _ _) rfl ?_
            exact ⟨rfl, fin.out _⟩
        · have d0 : decide (x < y) = false := by simpa using hxy
          go_upto_region 3 with (fail)
          rw [EQ.out]
          go_big_quiet (first | (go_at_call 94; refine Calls.quiet_of_same (less_any _ _ _)))
          go_upto_region 5 with (fail)
          have hm : ∀ c', (c' = 2 * r + 1 ∨ c' = 2 * r + 2) → c' < hi → e (f + c') ≤ e (f + q) := fun c' hc _ => by
            have k1 := EQ0.out
            have ex := HX.out; have ey := HY.out
            rcases hc with hc | hc
            · have : c' = q := by omega
              rw [this]; exact Int.le_refl _
            · have : c' = q + 1 := by omega
              rw [this, show f + (q + 1) = f + q + 1 by omega]; omega
          have HM := Lib.hid hm
          have HU := HX
          have EQ3 := EQ0
          clear hm
          obtain ⟨u, hu⟩ : ∃ u, u = x := ⟨_, rfl⟩
          subst hu
          generalize hW0 : World.drewN wr _ = W0
          have HR0 : Hid (Rw w W0 g n e) := hW0 ▸ hrel.out.1.quiet ⟨_, rfl⟩
          have f0 := HR0.out.free
          have cz : W0.cell? ⟨g, f + r, none⟩ = some (.int .u16 z) := hW0 ▸ cz
          have cu : W0.cell? ⟨g, f + q, none⟩ = some (.int .u16 u) := hW0 ▸ cq
          clear hW0
          have hsw : Hid (∀ nq W', W' = ((W0.drewN nq).setCell ⟨g, f + r, none⟩ (.int .u16 u)).setCell ⟨g, f + q, none⟩ (.int .u16 z) → z < u → Rw w W' g n (sw e (f + r) (f + q)) ∧ Pm (f + lo) (f + hi) d (sw e (f + r) (f + q)) ∧ SD f lo hi q (sw e (f + r) (f + q))) := by
            rintro nq W' rfl hlt
            have qq : Rw w (W0.drewN nq) g n e := HR0.out.quiet ⟨nq, rfl⟩
            have := qq.swap (f + r) (f + q)
            rw [HU.out, HZ.out]
            exact ⟨this, hrel.out.2.1.swap (by omega) (by omega) (by omega) (by omega), hrel.out.2.2.step hr1 (by have := EQ0.out; have := EQ3.out; omega) (by omega) HM.out (by rw [← HU.out, ← HZ.out]; exact hlt)⟩
          by_cases hl : z < u
          · have d1 : decide (z < u) = true := by simpa using hl
            go_wp2_with (fail)
            go_big_quiet (first | (go_at_call 94; refine Calls.quiet_of_same (less_any _ _ _)))
            go_wp2_with (fail)
            go_region
            all_goals
              go_wp2_with (fail)
              go_roundw
              case rel => exact ⟨q, rfl, by omega, .inl (by omega), _, hsw.out _ _ rfl hl⟩
              case measure => first | (simp [intOf]; done) | (simp [intOf]; omega)
          · have d1 : decide (z < u) = false := by simpa using hl
            have fin : Hid (∀ nq, ∃ d', Rw w (W0.drewN nq) g n d' ∧ Pm (f + lo) (f + hi) d d' ∧ Hp f lo hi d') := fun nq =>
              ⟨e, HR0.out.quiet ⟨nq, rfl⟩, hrel.out.2.1, hrel.out.2.2.done (fun c' h1 h2 => Int.le_trans (HM.out c' h1 h2) (by rw [← HU.out, ← HZ.out]; omega))⟩
            go_wp2_with (fail)
            go_big_quiet (first | (go_at_call 94; refine Calls.quiet_of_same (less_any _ _ _)))
            go_wp2_with (fail)
            first | go_end0 | refine bodyPost_ret (results_none rfl _ _ _) rfl ?_
            exact ⟨rfl, fin.out _⟩
      · have dg2 : decide ((q : Int) + 1 < (hi : Int)) = false := by simp; omega
        go_upto_region 3 with (fail)
        rw [EQ.out]
        go_big_quiet (first | (go_at_call 94; refine Calls.quiet_of_same (less_any _ _ _)))
        go_upto_region 5 with (fail)
        have hm : ∀ c', (c' = 2 * r + 1 ∨ c' = 2 * r + 2) → c' < hi → e (f + c') ≤ e (f + q) := fun c' hc hch => by
          have k1 := EQ0.out
          have : c' = q := by omega
          rw [this]; exact Int.le_refl _
        have HM := Lib.hid hm
        have HU := HX
        have EQ3 := EQ0
        clear hm
        obtain ⟨u, hu⟩ : ∃ u, u = x := ⟨_, rfl⟩
        subst hu
        generalize hW0 : World.drewN wr _ = W0
        have HR0 : Hid (Rw w W0 g n e) := hW0 ▸ hrel.out.1.quiet ⟨_, rfl⟩
        have f0 := HR0.out.free
        have cz : W0.cell? ⟨g, f + r, none⟩ = some (.int .u16 z) := hW0 ▸ cz
        have cu : W0.cell? ⟨g, f + q, none⟩ = some (.int .u16 u) := hW0 ▸ cq
        clear hW0
        have hsw : Hid (∀ nq W', W' = ((W0.drewN nq).setCell ⟨g, f + r, none⟩ (.int .u16 u)).setCell ⟨g, f + q, none⟩ (.int .u16 z) → z < u → Rw w W' g n (sw e (f + r) (f + q)) ∧ Pm (f + lo) (f + hi) d (sw e (f + r) (f + q)) ∧ SD f lo hi q (sw e (f + r) (f + q))) := by
          rintro nq W' rfl hlt
          have qq : Rw w (W0.drewN nq) g n e := HR0.out.quiet ⟨nq, rfl⟩
          have := qq.swap (f + r) (f + q)
          rw [HU.out, HZ.out]
          exact ⟨this, hrel.out.2.1.swap (by omega) (by omega) (by omega) (by omega), hrel.out.2.2.step hr1 (by have := EQ0.out; have := EQ3.out; omega) (by omega) HM.out (by rw [← HU.out, ← HZ.out]; exact hlt)⟩
        by_cases hl : z < u
        · have d1 : decide (z < u) = true := by simpa using hl
          go_wp2_with (fail)
          go_big_quiet (first | (go_at_call 94; refine Calls.quiet_of_same (less_any _ _ _)))
          go_wp2_with (fail)
          go_region
          all_goals
            go_wp2_with (fail)
            go_roundw
            case rel => exact ⟨q, rfl, by omega, .inl (by omega), _, hsw.out _ _ rfl hl⟩
            case measure => first | (simp [intOf]; done) | (simp [intOf]; omega)
        · have d1 : decide (z < u) = false := by simpa using hl
          have fin : Hid (∀ nq, ∃ d', Rw w (W0.drewN nq) g n d' ∧ Pm (f + lo) (f + hi) d d' ∧ Hp f lo hi d') := fun nq =>
            ⟨e, HR0.out.quiet ⟨nq, rfl⟩, hrel.out.2.1, hrel.out.2.2.done (fun c' h1 h2 => Int.le_trans (HM.out c' h1 h2) (by rw [← HU.out, ← HZ.out]; omega))⟩
          go_wp2_with (fail)
          go_big_quiet (first | (go_at_call 94; refine Calls.quiet_of_same (less_any _ _ _)))
          go_wp2_with (fail)
          first | go_end0 | refine bodyPost_ret (results_none rfl _ _ _) rfl ?_
          exact ⟨rfl, fin.out _⟩
    · have dg1 : decide ((hi : Int) ≤ 2 * (r : Int) + 1) = true := by rw [EQ.out]; simp; omega
      have fin : Hid (∃ d', Rw w wr g n d' ∧ Pm (f + lo) (f + hi) d d' ∧ Hp f lo hi d') := ⟨e, hrel.out.1, hrel.out.2.1, hrel.out.2.2.done (fun c' hc hch => by have := EQ0.out; omega)⟩
      go_wp2_with (fail)
      first | go_end0 | refine bodyPost_ret (results_none rfl _ _ _) rfl ?_
      exact ⟨rfl, fin.out⟩

set_option maxRecDepth 100000 in
set_option maxHeartbeats 8000000 in
theorem heap_any (w : World) (g n c a b : Nat) (d : Nat → Int) (h : Rw w w g n d) (hab : a + 1 ≤ b) (hb : b ≤ n) (hn : n < 65536) :
    Calls Tryd.prog 89 #[.slice (some ⟨g, 0, none⟩) n c, .int .i64 a, .int .i64 b] w fun e w' => e = .returned (.tuple #[]) ∧ Hid (∃ d', Rw w w' g n d' ∧ Pm a b d d' ∧ Asc a b d') := by
  obtain ⟨l, hl⟩ : ∃ l, b = a + l := ⟨b - a, by omega⟩
  have EL : Hid ((b : Int) - (a : Int) = (l : Int)) := show _ = _ by omega
  have EB := Lib.hid hl
  have l1 : 1 ≤ l := by omega
  have l2 : a + l ≤ n := by omega
  have H := Lib.hid h
  have SI : Hid (∀ (W : World) (lo hi : Nat) (e : Nat → Int), Rw w W g n e → Hp a (lo + 1) hi e → hi ≤ l → lo ≤ hi →
      Calls Tryd.prog 98 #[.slice (some ⟨g, 0, none⟩) n c, .int .i64 lo, .int .i64 hi, .int .i64 a] W fun r w' => r = .returned (.tuple #[]) ∧ Hid (∃ d', Rw w w' g n d' ∧ Pm (a + lo) (a + hi) e d' ∧ Hp a lo hi d')) := fun W lo hi e h1 h2 h3 h4 =>
    (sift_any W g n c a lo hi e h1.self h2 (by omega) h4 hn).mono fun r w' ⟨k1, d', k2, k3, k4⟩ => ⟨k1, d', h1.trans k2, k3, k4⟩
  clear h hl
  go_enter Tryd.func89, Tryd.ntmps89
  go_upto_region 3 with (fail)
  rw [EL.out]
  go_wp2_with (fail)
  go_loopw [9] (fun p wr => ∃ i : Nat, p = .int .i64 ((i : Int) - 1) ∧ i ≤ l ∧ ∃ e, Hid (Rw w wr g n e ∧ Pm a b d e ∧ Hp a i l e)) (fun p _ => (intOf p + 1).toNat)
  case atStart => exact ⟨(l - 1) / 2 + 1, by congr 1; omega, by omega, d, H.out, Pm.refl _ _ _, fun p c h1 h2 h3 => by omega⟩
  case round =>
    obtain ⟨i, rfl, hi, e, hrel⟩ := hrel
    cases i with
    | succ i =>
      have E1 : Hid ((((i + 1 : Nat) : Int)) - 1 = (i : Int)) := show _ = _ by omega
      rw [E1.out]
      go_wp2_with (fail)
      refine (SI.out _ i l e hrel.out.1 hrel.out.2.2 (Nat.le_refl _) (by omega)).mono ?_
      rintro r W ⟨rfl, hs⟩
      have nxt : Hid (∃ e, Rw w W g n e ∧ Pm a b d e ∧ Hp a i l e) := by
        obtain ⟨e', k1, k2, k3⟩ := hs.out
        exact ⟨e', k1, hrel.out.2.1.trans (k2.mono (by omega) (by rw [EB.out]; exact Nat.le_refl _)), k3⟩
      clear hs
      go_wp2_with (fail)
      go_roundw
      case rel => obtain ⟨e', k⟩ := nxt.out; exact ⟨i, rfl, by omega, e', k⟩
      case measure => first | (simp [intOf]; done) | (simp [intOf]; omega)
    | zero =>
      have E1 : Hid ((((0 : Nat) : Int)) - 1 = -1) := show _ = _ by omega
      rw [E1.out]
      have hs0 : Hid (HS a l l e) := ⟨hrel.out.2.2, fun x y h1 h2 h3 => by omega⟩
      have R0 := Lib.hid hrel.out.1
      have P0 := Lib.hid hrel.out.2.1
      clear hrel
      go_wp2_with (fail)
      go_loopw [10] (fun p wr => ∃ i : Nat, p = .int .i64 ((i : Int) - 1) ∧ i ≤ l ∧ ∃ e, Hid (Rw w wr g n e ∧ Pm a b d e ∧ HS a l i e)) (fun p _ => (intOf p + 1).toNat)
      case atStart => exact ⟨l, rfl, Nat.le_refl _, e, R0.out, P0.out, hs0.out⟩
      case round =>
        obtain ⟨i, rfl, hi, e, hrel⟩ := hrel
        cases i with
        | succ i =>
          have E1 : Hid ((((i + 1 : Nat) : Int)) - 1 = (i : Int)) := show _ = _ by omega
          rw [E1.out]
          have f0 := hrel.out.1.free
          have ca := hrel.out.1.cell (j := a) (by omega)
          have ci := hrel.out.1.cell (j := a + i) (by omega)
          obtain ⟨x, hx⟩ : ∃ x, x = e a := ⟨_, rfl⟩
          obtain ⟨y, hy⟩ : ∃ y, y = e (a + i) := ⟨_, rfl⟩
          rw [← hx] at ca; rw [← hy] at ci
          have sv := (hrel.out.1.set a y).cell (j := a + i) (by omega)
          obtain ⟨vv, hvv⟩ : ∃ vv, (wr.setCell ⟨g, a, none⟩ (.int .u16 y)).cell? ⟨g, a + i, none⟩ = some vv := ⟨_, sv⟩
          have b0 : (a : Int) < (n : Int) := by omega
          have b1 : (a : Int) + (i : Int) < (n : Int) := by omega
          have nxt : Hid (∀ W', W' = ((wr.setCell ⟨g, a, none⟩ (.int .u16 y)).setCell ⟨g, a + i, none⟩ (.int .u16 x)).drew → Rw w W' g n (sw e a (a + i))) := by
            rintro W' rfl
            rw [hx, hy]
            exact (hrel.out.1.swap a (a + i)).quiet ⟨1, rfl⟩
          clear hx hy sv
          go_wp2_with (fail)
          go_region
          all_goals
            go_wp2_with (fail)
            refine (SI.out _ 0 i (sw e a (a + i)) (nxt.out _ rfl) hrel.out.2.2.pop.1 (by omega) (by omega)).mono ?_
            rintro r W ⟨rfl, hs⟩
            have nx2 : Hid (∃ e, Rw w W g n e ∧ Pm a b d e ∧ HS a l i e) := by
              obtain ⟨e', k1, k2, k3⟩ := hs.out
              have eb := EB.out
              exact ⟨e', k1, (hrel.out.2.1.swap (Nat.le_refl _) (by omega) (by omega) (by omega)).trans (k2.mono (by omega) (by omega)), HS.next hrel.out.2.2.pop.2 k2 k3⟩
            clear hs
            go_wp2_with (fail)
            go_roundw
            case rel => obtain ⟨e', k⟩ := nx2.out; exact ⟨i, rfl, by omega, e', k⟩
            case measure => first | (simp [intOf]; done) | (simp [intOf]; omega)
        | zero =>
          have E1 : Hid ((((0 : Nat) : Int)) - 1 = -1) := show _ = _ by omega
          rw [E1.out]
          have fin : Hid (∃ d', Rw w wr g n d' ∧ Pm a b d d' ∧ Asc a b d') := ⟨e, hrel.out.1, hrel.out.2.1, by rw [EB.out]; exact hrel.out.2.2.done⟩
          go_wp2_with (fail)
          first | go_end0 | refine bodyPost_ret (results_none rfl _ _ _) rfl ?_
          exact ⟨rfl, fin.out⟩
end Go.Proofs.YtabeljpnmmfpgaaDoor

namespace Go.Proofs.YtabeljpnmmfpgaaDoor
open Go.RowKit Go.MapKept
set_option linter.unusedVariables false
set_option linter.unusedSimpArgs false

/-- What a round of pdqsort of [A, B) has: [a, b) is still to be sorted, all else stands in its place. -/
structure Qs (w W : World) (g n A B : Nat) (d : Nat → Int) (a b : Nat) (e : Nat → Int) : Prop where
  rw : Rw w W g n e
  pm : Pm A B d e
  inj : Inj n e
  aa : A ≤ a
  ab : a ≤ b
  bB : b ≤ B
  out : ∀ x y, A ≤ x → x ≤ y → y < B → (x < a ∨ b ≤ y) → e x ≤ e y
  fl : Fl a b e
theorem Qs.start {w : World} {g n A B : Nat} {d : Nat → Int} (h : Rw w w g n d) (hi : Inj n d) (hf : Fl A B d) (hAB : A ≤ B) : Qs w w g n A B d A B d :=
  ⟨h, Pm.refl _ _ _, hi, Nat.le_refl _, hAB, Nat.le_refl _, fun x y h0 h1 h2 h3 => by omega, hf⟩
theorem Qs.shuffle {w W : World} {g n A B : Nat} {d : Nat → Int} {a b : Nat} {e e' : Nat → Int} (h : Qs w W g n A B d a b e) (hp : Pm a b e e') (hn : B ≤ n) : Pm A B d e' ∧ Inj n e' ∧ (∀ x y, A ≤ x → x ≤ y → y < B → (x < a ∨ b ≤ y) → e' x ≤ e' y) ∧ Fl a b e' := by
  have h1 := h.ab; have h2 := h.bB; have h0 := h.aa
  refine ⟨h.pm.trans (hp.mono h0 h2), hp.inj (by omega) h.inj, fun x y hA hxy hy ho => ?_, h.fl.pm hp⟩
  by_cases hx : a ≤ x ∧ x < b
  · obtain ⟨m, m1, m2, m3⟩ := hp.mem x hx.1 hx.2
    rw [m3, hp.out y (by omega)]
    exact h.out m y (by omega) (by omega) hy (.inr (by omega))
  · rw [hp.out x hx]
    by_cases hy' : a ≤ y ∧ y < b
    · obtain ⟨m, m1, m2, m3⟩ := hp.mem y hy'.1 hy'.2
      rw [m3]
      exact h.out x m hA (by omega) (by omega) (.inl (by omega))
    · rw [hp.out y hy']; exact h.out x y hA hxy hy ho
theorem Qs.done {w W : World} {g n A B : Nat} {d : Nat → Int} {a b : Nat} {e e' : Nat → Int} (h : Qs w W g n A B d a b e) {W' : World} (hr : Rw w W' g n e') (hp : Pm a b e e') (hs : Asc a b e') (hn : B ≤ n) : Rw w W' g n e' ∧ Pm A B d e' ∧ Asc A B e' := by
  obtain ⟨q1, q2, q3, _⟩ := h.shuffle hp hn
  refine ⟨hr, q1, fun x y hx hxy hy => ?_⟩
  by_cases ho : x < a ∨ b ≤ y
  · exact q3 x y hx hxy hy ho
  · exact hs x y (by omega) hxy (by omega)
/-- The left part is sorted, the right one is left. -/
theorem Qs.right {w W W3 : World} {g n A B : Nat} {d : Nat → Int} {a b m : Nat} {e e2 e3 : Nat → Int} (h : Qs w W g n A B d a b e) (hp : Pm a b e e2) (hn : B ≤ n) (am : a ≤ m) (mb : m < b) (hlo : ∀ k, a ≤ k → k < m → e2 k < e2 m) (hhi : ∀ k, m < k → k < b → e2 m ≤ e2 k)
    (hr : Rw w W3 g n e3) (hp3 : Pm a m e2 e3) (hs : Asc a m e3) : Qs w W3 g n A B d (m + 1) b e3 := by
  have h2 := h.bB; have h0 := h.aa
  have hp' : Pm a b e e3 := hp.trans (hp3.mono (Nat.le_refl _) (by omega))
  obtain ⟨q1, q2, q3, _⟩ := h.shuffle hp' hn
  have hm : e3 m = e2 m := hp3.out m (by omega)
  have hlo3 : ∀ k, a ≤ k → k < m → e3 k < e3 m := by rw [hm]; exact hp3.all (Q := fun v => v < e2 m) hlo
  have hhi3 : ∀ k, m < k → k < b → e3 m ≤ e3 k := fun k k1 k2 => by rw [hm, hp3.out k (by omega)]; exact hhi k k1 k2
  refine ⟨hr, q1, q2, by omega, by omega, h2, fun x y hA hxy hy ho => ?_, .inr (fun k k1 k2 => hhi3 k (by omega) k2)⟩
  by_cases ho' : x < a ∨ b ≤ y
  · exact q3 x y hA hxy hy ho'
  · have x1 : a ≤ x := by omega
    have y1 : y < b := by omega
    have x2 : x ≤ m := by omega
    by_cases y2 : y < m
    · exact hs x y x1 hxy y2
    · have e1 : e3 x ≤ e3 m := by
        by_cases x3 : x = m
        · rw [x3]; exact Int.le_refl _
        · exact Int.le_of_lt (hlo3 x x1 (by omega))
      by_cases y3 : y = m
      · rw [y3]; exact e1
      · exact Int.le_trans e1 (hhi3 y (by omega) y1)
/-- The right part is sorted, the left one is left. -/
theorem Qs.left {w W W3 : World} {g n A B : Nat} {d : Nat → Int} {a b m : Nat} {e e2 e3 : Nat → Int} (h : Qs w W g n A B d a b e) (hp : Pm a b e e2) (hn : B ≤ n) (am : a ≤ m) (mb : m < b) (hlo : ∀ k, a ≤ k → k < m → e2 k < e2 m) (hhi : ∀ k, m < k → k < b → e2 m ≤ e2 k)
    (hr : Rw w W3 g n e3) (hp3 : Pm (m + 1) b e2 e3) (hs : Asc (m + 1) b e3) : Qs w W3 g n A B d a m e3 := by
  have h2 := h.bB; have h0 := h.aa
  have hp' : Pm a b e e3 := hp.trans (hp3.mono (by omega) (Nat.le_refl _))
  obtain ⟨q1, q2, q3, q4⟩ := h.shuffle hp' hn
  have hm : e3 m = e2 m := hp3.out m (by omega)
  have hlo3 : ∀ k, a ≤ k → k < m → e3 k < e3 m := fun k k1 k2 => by rw [hm, hp3.out k (by omega)]; exact hlo k k1 k2
  have hhi3 : ∀ k, m + 1 ≤ k → k < b → e3 m ≤ e3 k := by rw [hm]; exact hp3.all (Q := fun v => e2 m ≤ v) (fun k k1 k2 => hhi k (by omega) k2)
  refine ⟨hr, q1, q2, h0, am, by omega, fun x y hA hxy hy ho => ?_, ?_⟩
  · by_cases ho' : x < a ∨ b ≤ y
    · exact q3 x y hA hxy hy ho'
    · have x1 : a ≤ x := by omega
      have y1 : y < b := by omega
      have y2 : m ≤ y := by omega
      by_cases x2 : m + 1 ≤ x
      · exact hs x y x2 hxy y1
      · have e1 : e3 x ≤ e3 m := by
          by_cases x3 : x = m
          · rw [x3]; exact Int.le_refl _
          · exact Int.le_of_lt (hlo3 x x1 (by omega))
        by_cases y3 : y = m
        · rw [y3]; exact e1
        · exact Int.le_trans e1 (hhi3 y (by omega) y1)
  · rcases q4 with q4 | q4
    · exact .inl q4
    · exact .inr (fun k k1 k2 => q4 k k1 (by omega))

set_option maxRecDepth 100000 in
set_option maxHeartbeats 16000000 in
theorem pdq_step (N : Nat) (ih : ∀ (w : World) (g n c A B L0 : Nat) (d : Nat → Int), Rw w w g n d → Inj n d → Fl A B d → A ≤ B → B ≤ n → B ≤ A + N → L0 ≤ 100 → n < 65536 →
      Calls Tryd.prog 81 #[.slice (some ⟨g, 0, none⟩) n c, .int .i64 A, .int .i64 B, .int .i64 L0] w fun e w' => e = .returned (.tuple #[]) ∧ Hid (∃ d', Rw w w' g n d' ∧ Pm A B d d' ∧ Asc A B d'))
    (w : World) (g n c A B L0 : Nat) (d : Nat → Int) (h : Rw w w g n d) (hi : Inj n d) (hf : Fl A B d) (hAB : A ≤ B) (hb : B ≤ n) (hN : B ≤ A + (N + 1)) (hL2 : L0 ≤ 100) (hn : n < 65536) :
    Calls Tryd.prog 81 #[.slice (some ⟨g, 0, none⟩) n c, .int .i64 A, .int .i64 B, .int .i64 L0] w fun e w' => e = .returned (.tuple #[]) ∧ Hid (∃ d', Rw w w' g n d' ∧ Pm A B d d' ∧ Asc A B d') := by
  have st := Lib.hid (Qs.start h hi hf hAB)
  have REC : Hid (∀ (W : World) (a b L : Nat) (e : Nat → Int), Rw W W g n e → Inj n e → Fl a b e → a ≤ b → b ≤ n → b ≤ a + N → L ≤ 100 →
      Calls Tryd.prog 81 #[.slice (some ⟨g, 0, none⟩) n c, .int .i64 a, .int .i64 b, .int .i64 L] W fun e' w' => e' = .returned (.tuple #[]) ∧ Hid (∃ d', Rw W w' g n d' ∧ Pm a b e d' ∧ Asc a b d')) :=
    fun W a b L e h1 h2 h3 h4 h5 h6 h7 => ih W g n c a b L e h1 h2 h3 h4 h5 h6 h7 hn
  have hN' := Lib.hid hN
  clear h hi hf hN ih
  go_enter Tryd.func81, Tryd.ntmps81
  go_wp2_with (fail)
  go_loopw [1, 2, 3, 8, 9] (fun p1 p2 p3 p8 p9 wr => ∃ (a b L : Nat) (wb wp : Bool) (e : Nat → Int), p1 = .int .i64 (a : Int) ∧ p2 = .int .i64 (b : Int) ∧ p3 = .int .i64 (L : Int) ∧ p8 = .bool wb ∧ p9 = .bool wp ∧ L ≤ 100 ∧ Hid (Qs w wr g n A B d a b e)) (fun p1 p2 _ _ _ _ => (intOf p2 - intOf p1).toNat)
  case atStart => exact ⟨A, B, L0, true, true, d, rfl, rfl, rfl, rfl, rfl, hL2, st⟩
  case round =>
    obtain ⟨a, b, L, wb, wp, e, rfl, rfl, rfl, rfl, rfl, hLL, Q⟩ := hrel
    have q0 := Q.out.aa
    have q1 := Q.out.ab
    have q2 := Q.out.bB
    clear st
    by_cases hs : b ≤ a + 12
    · have dl : decide ((b : Int) - (a : Int) ≤ 12) = true := by simp; omega
      have ins := Lib.hid (insertion_any wr g n c a b e Q.out.rw.self q1 (by omega) (by omega))
      go_wp2_with (fail)
      refine ins.out.mono ?_
      rintro e1 w1 ⟨rfl, d1, hr, hp, has⟩
      have fin : Hid (∃ d', Rw w w1 g n d' ∧ Pm A B d d' ∧ Asc A B d') := ⟨d1, Q.out.done (Q.out.rw.trans hr) hp has hb⟩
      clear hr hp has
      go_wp2_with (fail)
      first | go_end0 | refine bodyPost_ret (results_none rfl _ _ _) rfl ?_
      exact ⟨rfl, fin⟩
    · have dl : decide ((b : Int) - (a : Int) ≤ 12) = false := by simp; omega
      by_cases hL0 : L = 0
      · subst hL0
        have hp0 := Lib.hid (heap_any wr g n c a b e Q.out.rw.self (by omega) (by omega) hn)
        go_wp2_with (fail)
        refine hp0.out.mono ?_
        rintro e1 w1 ⟨rfl, hd⟩
        have fin : Hid (∃ d', Rw w w1 g n d' ∧ Pm A B d d' ∧ Asc A B d') := by
          obtain ⟨d1, hr, hp, has⟩ := hd.out
          exact ⟨d1, Q.out.done (Q.out.rw.trans hr) hp has hb⟩
        clear hd hp0
        go_wp2_with (fail)
        first | go_end0 | refine bodyPost_ret (results_none rfl _ _ _) rfl ?_
        exact ⟨rfl, fin⟩
      have dz : ((L : Int) == 0) = false := by simp; omega
      go_upto_if 35 with (fail)
      go_cut [3] (fun p wx => ∃ (L2 : Nat) (e1 : Nat → Int), p = .int .i64 (L2 : Int) ∧ L2 ≤ 100 ∧ Hid (Rw wr wx g n e1 ∧ Pm a b e e1))
      case first =>
        cases wb with
        | true =>
          have f : Hid (Rw wr wr g n e ∧ Pm a b e e) := ⟨Q.out.rw.self, Pm.refl _ _ _⟩
          go_wp2_with (fail)
          go_meet
          exact ⟨L, e, rfl, hLL, f⟩
        | false =>
          have bp := Lib.hid (breakPatterns_any wr g n c a b e Q.out.rw.self (by omega) (by omega) hn)
          have EL : Hid ((L : Int) - 1 = ((L - 1 : Nat) : Int)) := show _ = _ by omega
          go_wp2_with (fail)
          refine bp.out.mono ?_
          rintro e0 w1 ⟨rfl, hd⟩
          have HD := Lib.hid hd.out
          clear hd
          go_wp2_with (fail)
          go_meet
          obtain ⟨d1, h1, h2⟩ := HD.out
          exact ⟨L - 1, d1, by rw [EL.out], by omega, h1, h2⟩
      case rest =>
        obtain ⟨L2, e1, rfl, hL3, F1⟩ := hcut
        obtain ⟨W1, hW1⟩ : ∃ W1, W1 = wc := ⟨_, rfl⟩
        rw [← hW1] at F1 ⊢
        clear hW1
        have cp := Lib.hid (choosePivot_any wr W1 g n c a b e1 F1.out.1 F1.out.1.lt (by omega) (by omega) (by omega))
        go_wp2_with (fail)
        refine cp.out.mono ?_
        rintro e0 w2 ⟨p0, k0, rfl, p01, p02, k02, R2⟩
        clear cp
        go_upto_if 50 with (fail)
        go_cut [11, 12] (fun u v wx => ∃ p k : Nat, u = .int .i64 (p : Int) ∧ v = .int .i64 (k : Int) ∧ a ≤ p ∧ p < b ∧ k ≤ 1 ∧ ∃ e2, Hid (Rw wr wx g n e2 ∧ Pm a b e e2))
        case first =>
          by_cases hk2 : k0 = 2
          · subst hk2
            have rv := Lib.hid (reverse_any w2 g n c a b e1 R2.out.self (by omega) (by omega) hn)
            obtain ⟨p, hp⟩ : ∃ p, p = (b - 1) - (p0 - a) := ⟨_, rfl⟩
            have EP : Hid ((b : Int) - 1 - ((p0 : Int) - (a : Int)) = (p : Int)) := show _ = _ by omega
            have pa : a ≤ p := by omega
            have pb : p < b := by omega
            clear hp
            go_wp2_with (fail)
            refine rv.out.mono ?_
            rintro e0 w3 ⟨rfl, hd⟩
            have HD : Hid (∃ e2, Rw wr w3 g n e2 ∧ Pm a b e e2) := by
              obtain ⟨e2, h1, h2⟩ := hd.out
              exact ⟨e2, R2.out.trans h1, F1.out.2.trans h2⟩
            clear hd rv
            go_wp2_with (fail)
            go_meet
            obtain ⟨e2, h⟩ := HD.out
            exact ⟨p, 1, by rw [EP.out], rfl, pa, pb, Nat.le_refl _, e2, h⟩
          · have dk : ((k0 : Int) == 2) = false := by simp; omega
            have f : Hid (Rw wr w2 g n e1 ∧ Pm a b e e1) := ⟨R2.out, F1.out.2⟩
            go_wp2_with (fail)
            go_meet
            exact ⟨p0, k0, rfl, rfl, p01, p02, by omega, e1, f⟩
        case rest =>
        obtain ⟨p, k, rfl, rfl, p1, p2, k2, e2, F2⟩ := hcut
        clear F1 R2
        obtain ⟨W2, hW2⟩ : ∃ W2, W2 = wc := ⟨_, rfl⟩
        rw [← hW2] at F2 ⊢
        clear hW2
        go_upto_region 15 with (fail)
        go_cut [68] (fun p wx => ∃ cc : Bool, p = .bool cc ∧ wx = W2)
        case first =>
          cases wb <;> cases wp
          all_goals
            by_cases hk : k = 1
            · subst hk
              go_wp2_with (fail)
              go_meet
              exact ⟨_, rfl, rfl⟩
            · have dk1 : ((k : Int) == 1) = false := by simp; omega
              go_wp2_with (fail)
              go_meet
              exact ⟨_, rfl, rfl⟩
        case rest =>
          obtain ⟨cc, rfl, rfl⟩ := hcut
          obtain ⟨W2, hW2⟩ : ∃ W2, W2 = wc := ⟨_, rfl⟩
          rw [← hW2] at F2 ⊢
          clear hW2
          go_upto_if 68 with (fail)
          go_cut [] (fun wx => ∃ e3, Hid (Rw wr wx g n e3 ∧ Pm a b e e3))
          case first =>
            cases cc with
            | false =>
              go_wp2_with (fail)
              go_meet
              exact ⟨e2, F2⟩
            | true =>
              have pi := Lib.hid (partialIns_any W2 g n c a b e2 F2.out.1.self (Q.out.shuffle F2.out.2 hb).2.2.2 (by omega) (by omega) hn)
              go_wp2_with (fail)
              refine pi.out.mono ?_
              rintro e0 w3 ⟨r, rfl, e3, hr1, hr2, hr3⟩
              have R3 : Hid (Rw wr w3 g n e3 ∧ Pm a b e e3) := ⟨F2.out.1.trans hr1, F2.out.2.trans hr2⟩
              have A3 := Lib.hid hr3
              clear pi hr1 hr2 hr3
              cases r with
              | true =>
                have fin : Hid (∃ d', Rw w w3 g n d' ∧ Pm A B d d' ∧ Asc A B d') := ⟨e3, Q.out.done (Q.out.rw.trans R3.out.1) R3.out.2 (A3.out rfl) hb⟩
                go_wp2_with (fail)
                first | go_end0 | refine bodyPost_ret (results_none rfl _ _ _) rfl ?_
                exact ⟨rfl, fin⟩
              | false =>
                go_wp2_with (fail)
                go_meet
                exact ⟨e3, R3⟩
          case rest =>
            obtain ⟨e3, F3⟩ := hcut
            clear F2
            obtain ⟨W3, hW3⟩ : ∃ W3, W3 = wc := ⟨_, rfl⟩
            rw [← hW3] at F3 ⊢
            clear hW3
            go_upto_region 17 with (fail)
            go_cut [87] (fun p wx => p = .bool false ∧ Hid (Rw wr wx g n e3))
            case first =>
              by_cases ha : a = 0
              · subst ha
                have out : Hid (∀ nq, Rw wr (W3.drewN nq) g n e3) := fun nq => F3.out.1.quiet ⟨nq, rfl⟩
                go_wp2_with (fail)
                go_big_quiet (first | (go_at_call 94; refine Calls.quiet_of_same (less_any _ _ _)))
                go_wp2_with (fail)
                go_meet
                exact ⟨rfl, out.out _⟩
              · obtain ⟨m, rfl⟩ : ∃ m, a = m + 1 := ⟨a - 1, by omega⟩
                have cm := F3.out.1.cell (j := m) (by omega)
                have cp := F3.out.1.cell (j := p) (by omega)
                obtain ⟨s1, s2, s3, s4⟩ := Q.out.shuffle F3.out.2 hb
                have hle : e3 m ≤ e3 p := by
                  rcases s4 with s4 | s4
                  · omega
                  · have := s4 p p1 p2
                    rwa [Nat.add_sub_cancel] at this
                have hne : e3 m ≠ e3 p := fun h => by have := s2 m p (by omega) (by omega) h; omega
                obtain ⟨x, hx⟩ : ∃ x, x = e3 m := ⟨_, rfl⟩
                obtain ⟨y, hy⟩ : ∃ y, y = e3 p := ⟨_, rfl⟩
                rw [← hx] at cm hle hne
                rw [← hy] at cp hle hne
                have d1 : decide (x < y) = true := decide_eq_true (by omega)
                have dg : decide ((0 : Int) < (m : Int) + 1) = true := decide_eq_true (by omega)
                have z0 : (m : Int) < (n : Int) := by omega
                have z1 : (p : Int) < (n : Int) := by omega
                have wm := wrapN m (by omega)
                have out : Hid (∀ nq, Rw wr (W3.drewN nq) g n e3) := fun nq => F3.out.1.quiet ⟨nq, rfl⟩
                clear s1 s2 s3 s4 hx hy hle hne
                go_wp2_with (fail)
                go_big_quiet (first | (go_at_call 94; refine Calls.quiet_of_same (less_any _ _ _)))
                go_wp2_with (fail)
                go_meet
                exact ⟨rfl, out.out _⟩
            case rest =>
              obtain ⟨rfl, R4⟩ := hcut
              obtain ⟨W4, hW4⟩ : ∃ W4, W4 = wc := ⟨_, rfl⟩
              rw [← hW4] at R4 ⊢
              clear hW4
              have P3 := Lib.hid F3.out.2
              clear F3
              have pt := Lib.hid (partition_any W4 g n c a b p e3 R4.out.self p1 p2 (by omega) (by omega))
              go_wp2_with (fail)
              refine pt.out.mono ?_
              rintro e0 w5 ⟨m, r, rfl, hP⟩
              obtain ⟨e4, PE⟩ := hP.out
              have am := PE.am
              have mb := PE.mb
              have PH := Lib.hid PE
              clear hP PE pt
              have hp2 : Hid (Pm a b e e4) := P3.out.trans PH.out.pm
              have R5 : Hid (Rw wr w5 g n e4) := R4.out.trans PH.out.rw
              have SH := Lib.hid (Q.out.shuffle hp2.out hb)
              by_cases hlr : m - a < b - m
              · have dlr : decide ((m : Int) - (a : Int) < (b : Int) - (m : Int)) = true := by simp; omega
                have rc := Lib.hid (REC.out w5 a m L2 e4 R5.out.self SH.out.2.1 (by rcases SH.out.2.2.2 with f | f; exact .inl f; exact .inr (fun k k1 k2 => f k k1 (by omega))) am (by omega) (by have := hN'.out; omega) hL3)
                go_wp2_with (fail)
                refine rc.out.mono ?_
                rintro e0 w6 ⟨rfl, hd⟩
                have fin : Hid (∃ e3, Qs w w6 g n A B d (m + 1) b e3) := by
                  obtain ⟨e5, h1, h2, h3⟩ := hd.out
                  exact ⟨e5, Q.out.right hp2.out hb am mb PH.out.lo PH.out.hi (Q.out.rw.trans (R5.out.trans h1)) h2 h3⟩
                clear hd rc
                go_wp2_with (fail)
                go_roundw
                case rel => obtain ⟨e3, hq⟩ := fin.out; exact ⟨m + 1, b, L2, _, r, e3, by go_num, rfl, rfl, rfl, rfl, hL3, hq⟩
                case measure => first | (simp [intOf]; done) | (simp [intOf]; omega)
              · have dlr : decide ((m : Int) - (a : Int) < (b : Int) - (m : Int)) = false := by simp; omega
                have EM : Hid ((m : Int) + 1 = ((m + 1 : Nat) : Int)) := show _ = _ by omega
                have rc := Lib.hid (REC.out w5 (m + 1) b L2 e4 R5.out.self SH.out.2.1 (.inr (fun k k1 k2 => by rw [Nat.add_sub_cancel]; exact PH.out.hi k (by omega) k2)) (by omega) (by omega) (by have := hN'.out; omega) hL3)
                rw [← EM.out] at rc
                go_wp2_with (fail)
                refine rc.out.mono ?_
                rintro e0 w6 ⟨rfl, hd⟩
                have fin : Hid (∃ e3, Qs w w6 g n A B d a m e3) := by
                  obtain ⟨e5, h1, h2, h3⟩ := hd.out
                  exact ⟨e5, Q.out.left hp2.out hb am mb PH.out.lo PH.out.hi (Q.out.rw.trans (R5.out.trans h1)) h2 h3⟩
                clear hd rc
                go_wp2_with (fail)
                go_roundw
                case rel => obtain ⟨e3, hq⟩ := fin.out; exact ⟨a, m, L2, _, r, e3, rfl, rfl, rfl, rfl, rfl, hL3, hq⟩
                case measure => first | (simp [intOf]; done) | (simp [intOf]; omega)

theorem pdq_all (N : Nat) : ∀ (w : World) (g n c A B L0 : Nat) (d : Nat → Int), Rw w w g n d → Inj n d → Fl A B d → A ≤ B → B ≤ n → B ≤ A + N → L0 ≤ 100 → n < 65536 →
      Calls Tryd.prog 81 #[.slice (some ⟨g, 0, none⟩) n c, .int .i64 A, .int .i64 B, .int .i64 L0] w fun e w' => e = .returned (.tuple #[]) ∧ Hid (∃ d', Rw w w' g n d' ∧ Pm A B d d' ∧ Asc A B d') := by
  induction N with
  | zero => intro w g n c A B L0 d h hi hf hAB hb hN hL2 hn; exact pdq_small w g n c A B L0 d h hAB (by omega) hb (by omega)
  | succ N ih => intro w g n c A B L0 d h hi hf hAB hb hN hL2 hn; exact pdq_step N ih w g n c A B L0 d h hi hf hAB hb hN hL2 hn

/-- How long a row the sort is proved for. -/
def sortMax : Nat := 60000

set_option maxRecDepth 100000 in
set_option maxHeartbeats 4000000 in
theorem sort_any (w : World) (g n c : Nat) (d : Nat → Int) (h : Rw w w g n d) (hi : Inj n d) (hn : n ≤ sortMax) :
    Calls Tryd.prog 68 #[.slice (some ⟨g, 0, none⟩) n c] w fun e w' => e = .returned (.tuple #[]) ∧ Hid (∃ d', Rw w w' g n d' ∧ Pm 0 n d d' ∧ Asc 0 n d') := by
  have hnn : n ≤ 60000 := hn
  have pq : Hid (∀ L : Nat, L ≤ 16 → Calls Tryd.prog 81 #[.slice (some ⟨g, 0, none⟩) n c, .int .i64 0, .int .i64 (n : Int), .int .i64 (L : Int)] w fun e w' => e = .returned (.tuple #[]) ∧ Hid (∃ d', Rw w w' g n d' ∧ Pm 0 n d d' ∧ Asc 0 n d')) :=
    fun L hL => pdq_all n w g n c 0 n L d h hi (.inl rfl) (Nat.zero_le _) (Nat.le_refl _) (by omega) (by omega) (by omega)
  have wu : IntKind.u64.wrap (n : Int) = (n : Int) := by simp [IntKind.wrap, IntKind.bits, IntKind.signed]; omega
  have l0 : (0 : Int) ≤ (n : Int) := by omega
  have l1 : (n : Int) < 65536 := by omega
  clear h hi
  go_enter Tryd.func68, Tryd.ntmps68
  go_wp2_with (first | (go_at_call 58; refine (len_any _ _ l0 l1).mono ?_; rintro e w1 ⟨⟨L, rfl, hL, hp⟩, rfl⟩; clear hp) | (go_at_call 81; refine (pq.out L hL).mono ?_; rintro e w1 ⟨rfl, hd⟩))
  first | go_end0 | refine bodyPost_ret (results_none rfl _ _ _) rfl ?_
  exact ⟨rfl, hd⟩
end Go.Proofs.YtabeljpnmmfpgaaDoor

namespace Go.Proofs.YtabeljpnmmfpgaaDoor
open Go.RowKit Go.Maps Go.Sort Go.Shelf Go.MapKept Go.Proofs
set_option linter.unusedVariables false
set_option linter.unusedSimpArgs false

/-! ### slices.Sort -/
set_option maxRecDepth 100000 in
set_option maxHeartbeats 4000000 in
theorem sort_nil (w : World) : Calls Tryd.prog 68 #[.slice none 0 0] w fun e w' => e = .returned (.tuple #[]) ∧ w' = w := by
  have ins : Hid (∀ w, Calls Tryd.prog 88 #[.slice none 0 0, .int .i64 0, .int .i64 0] w fun e w' => e = .returned (.tuple #[]) ∧ w' = w) := by
    intro w
    go_enter Tryd.func88, Tryd.ntmps88
    go_wp2_with (fail)
    go_loopw [6] (fun p wr => p = .int .i64 1 ∧ wr = w) (fun _ _ => 0)
    case atStart => exact ⟨by go_num, rfl⟩
    case round =>
      obtain ⟨rfl, rfl⟩ := hrel
      go_wp2_with (fail)
      first | go_end0 | refine bodyPost_ret (results_none rfl _ _ _) rfl ?_
      exact ⟨rfl, rfl⟩
  have pq : Hid (∀ (w : World) (L : Nat), Calls Tryd.prog 81 #[.slice none 0 0, .int .i64 0, .int .i64 0, .int .i64 (L : Int)] w fun e w' => e = .returned (.tuple #[]) ∧ w' = w) := by
    intro w L
    go_enter Tryd.func81, Tryd.ntmps81
    go_wp2_with (fail)
    go_loopw [1, 2, 3, 8, 9] (fun p1 p2 p3 p8 p9 wr => p1 = .int .i64 0 ∧ p2 = .int .i64 0 ∧ p3 = .int .i64 (L : Int) ∧ p8 = .bool true ∧ p9 = .bool true ∧ wr = w) (fun _ _ _ _ _ _ => 0)
    case atStart => exact ⟨rfl, rfl, rfl, rfl, rfl, rfl⟩
    case round =>
      obtain ⟨rfl, rfl, rfl, rfl, rfl, rfl⟩ := hrel
      go_wp2_with (fail)
      refine (ins.out _).mono ?_
      rintro e w1 ⟨rfl, rfl⟩
      go_wp2_with (fail)
      first | go_end0 | refine bodyPost_ret (results_none rfl _ _ _) rfl ?_
      exact ⟨rfl, rfl⟩
  clear ins
  go_enter Tryd.func68, Tryd.ntmps68
  go_wp2_with (first | (go_at_call 58; refine (len_any _ _ (by decide) (by decide)).mono ?_; rintro e w1 ⟨⟨L, rfl, hL, hp⟩, rfl⟩; clear hp) | (go_at_call 81; refine (pq.out _ L).mono ?_; rintro e w1 ⟨rfl, rfl⟩))
  first | go_end0 | refine bodyPost_ret (results_none rfl _ _ _) rfl ?_
  exact ⟨rfl, rfl⟩

/-! ### slices.Sorted of keys -/
theorem KeysOf.inj {f : Int → Option Value} {ss : List Int} (h : KeysOf f ss) : Inj ss.length (fun j => ss.getD j 0) := fun i j hi hj e => by
  simp only [List.getD_eq_getElem?_getD, List.getElem?_eq_getElem hi, List.getElem?_eq_getElem hj, Option.getD_some] at e
  exact (List.getElem_inj h.1).1 e

/-- The sorted list of a row that ascends. -/
theorem sorted_list {f : Int → Option Value} {ss : List Int} (h : KeysOf f ss) {d' : Nat → Int} (hp : Pm 0 ss.length (fun j => ss.getD j 0) d') (ha : Asc 0 ss.length d') :
    ((List.range ss.length).map d').Pairwise (fun x y => x < y) ∧ ∀ x, x ∈ (List.range ss.length).map d' ↔ (f x).isSome = true := by
  have hi := hp.inj (Nat.le_refl _) h.inj
  constructor
  · refine List.pairwise_map.2 (List.pairwise_lt_range.imp_of_mem fun {a b} h1 h2 h3 => ?_)
    have h4 := List.mem_range.1 h1
    have h5 := List.mem_range.1 h2
    have h6 := ha a b (Nat.zero_le _) (by omega) h5
    have h7 : d' a ≠ d' b := fun e => by have := hi a b h4 h5 e; omega
    omega
  · intro x
    rw [← h.2 x, List.mem_map]
    constructor
    · rintro ⟨k, hk, rfl⟩
      obtain ⟨m, _, hm, e⟩ := hp.mem k (Nat.zero_le _) (List.mem_range.1 hk)
      rw [e]
      show ss.getD m 0 ∈ ss
      rw [List.getD_eq_getElem?_getD, List.getElem?_eq_getElem hm]
      exact List.getElem_mem hm
    · intro hx
      obtain ⟨m, hm, rfl⟩ := List.mem_iff_getElem.1 hx
      obtain ⟨k, _, hk, e⟩ := hp.mem' m (Nat.zero_le _) hm
      refine ⟨k, List.mem_range.2 hk, ?_⟩
      rw [← e]
      show ss.getD m 0 = _
      rw [List.getD_eq_getElem?_getD, List.getElem?_eq_getElem hm]; rfl

/-- What Sorted hands back: the keys in order, a row of its own. -/
def SortedRow (f : Int → Option Value) (w W : World) (v : Value) : Prop := ∃ ss : List Int, ss.Pairwise (fun x y => x < y) ∧ (∀ x, x ∈ ss ↔ (f x).isSome = true) ∧ RowU W w.heap.size v ss ∧ Below w.heap.size w W

theorem sortRow_any {f : Int → Option Value} {w W : World} {v : Value} (hlen : ∀ ss, KeysOf f ss → ss.length ≤ sortMax) (h : ∃ ss, KeysOf f ss ∧ RowU W w.heap.size v ss ∧ Below w.heap.size w W) :
    Calls Tryd.prog 68 #[v] W fun e w' => e = .returned (.tuple #[]) ∧ Hid (SortedRow f w w' v) := by
  obtain ⟨ss, hA, hK, hB⟩ := h
  rcases hK.rw_ with ⟨rfl, rfl⟩ | ⟨g, c', rfl, hg, hR⟩
  · refine (sort_nil W).mono ?_
    rintro e w' ⟨rfl, rfl⟩
    exact ⟨rfl, [], List.Pairwise.nil, fun x => by rw [← hA.2 x], hK, hB⟩
  · refine (sort_any W g ss.length c' _ hR hA.inj (hlen ss hA)).mono ?_
    rintro e w' ⟨rfl, d', h1, h2, h3⟩
    obtain ⟨k1, k2⟩ := sorted_list hA h2 h3
    exact ⟨rfl, _, k1, k2, hK.of_rw rfl h1, hB.trans (h1.upd.below hB.size (fun i e => by omega))⟩

set_option maxRecDepth 100000 in
set_option maxHeartbeats 4000000 in
theorem sortedS_any {f : Int → Option Value} {w : World} {b c : Nat} (h : MapAt w b f) (hc : w.cell? ⟨c, 0, none⟩ = some (.map (some b))) (hlt : c < w.heap.size) (hlen : ∀ ss, KeysOf f ss → ss.length ≤ sortMax) :
    Calls Tryd.prog 54 #[.func (.func 67) #[] #[.pointer (some ⟨c, 0, none⟩)]] w fun e w' => ∃ v, e = .returned v ∧ Hid (SortedRow f w w' v) := by
  have co := Lib.hid (collectS_any h hc hlt)
  have HL := Lib.hid hlen
  clear h hc hlen hlt
  go_enter Tryd.func54, Tryd.ntmps54
  go_wp2_with (first
    | (go_at_call 49; refine co.out.mono ?_; rintro e W ⟨v, rfl, hk⟩)
    | (go_at_call 68; refine (sortRow_any HL.out hk.out).mono ?_; rintro e W' ⟨rfl, hf⟩))
  go_ret
  exact ⟨_, rfl, hf⟩

set_option maxRecDepth 100000 in
set_option maxHeartbeats 4000000 in
theorem sortedF_any {f : Int → Option Value} {w : World} {b c : Nat} (h : MapAt w b f) (hc : w.cell? ⟨c, 0, none⟩ = some (.map (some b))) (hlt : c < w.heap.size) (hlen : ∀ ss, KeysOf f ss → ss.length ≤ sortMax) :
    Calls Tryd.prog 54 #[.func (.func 69) #[] #[.pointer (some ⟨c, 0, none⟩)]] w fun e w' => ∃ v, e = .returned v ∧ Hid (SortedRow f w w' v) := by
  have co := Lib.hid (collectF_any h hc hlt)
  have HL := Lib.hid hlen
  clear h hc hlen hlt
  go_enter Tryd.func54, Tryd.ntmps54
  go_wp2_with (first
    | (go_at_call 49; refine co.out.mono ?_; rintro e W ⟨v, rfl, hk⟩)
    | (go_at_call 68; refine (sortRow_any HL.out hk.out).mono ?_; rintro e W' ⟨rfl, hf⟩))
  go_ret
  exact ⟨_, rfl, hf⟩
end Go.Proofs.YtabeljpnmmfpgaaDoor
