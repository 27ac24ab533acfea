/-
  cart.Check: whether an abstract cartridge may be.
-/
import Derived.Test.YtabeljpnmmfpgaaDoorFlPrim
import Derived.Test.YtabeljpnmmfpgaaDoorFlInstr
namespace Go.Proofs.YtabeljpnmmfpgaaDoor
open Go.RowKit Go.MapKept
set_option linter.unusedVariables false
set_option linter.unusedSimpArgs false

theorem wrapN' (m : Nat) (h : m ≤ 4000000000000) : IntKind.i64.wrap (m : Int) = m := by simp [IntKind.wrap, IntKind.bits, IntKind.signed]; omega

def withinB (n m : Int) : Bool := decide (0 ≤ n) && decide (n ≤ m)
theorem within_any (w : World) (n m : Int) : Calls Tryd.prog 47 #[.int .i64 n, .int .i64 m] w fun e w' => e = .returned (.bool (withinB n m)) ∧ w' = w := by
  by_cases h0 : 0 ≤ n
  · by_cases h1 : n ≤ m
    · have e : withinB n m = true := by simp [withinB, h0, h1]
      rw [e]
      clear e
      go_enter Tryd.func47, Tryd.ntmps47
      go_wp2
      go_ret
      exact ⟨rfl, rfl⟩
    · have e : withinB n m = false := by simp [withinB, h1]
      rw [e]
      clear e
      go_enter Tryd.func47, Tryd.ntmps47
      go_wp2
      go_ret
      exact ⟨rfl, rfl⟩
  · have e : withinB n m = false := by simp [withinB, h0]
    rw [e]
    clear e
    go_enter Tryd.func47, Tryd.ntmps47
    go_wp2
    go_ret
    exact ⟨rfl, rfl⟩

/-- A row of effects that is read: address, in, out. -/
structure EffsIn (w : World) (A : Option Addr) (l : List (Int × Int × Int)) : Prop where
  len : l.length ≤ 1000000000000
  at_ : ∀ (j : Nat) (hj : j < l.length), ∃ b off, A = some ⟨b, off, none⟩ ∧ w.cell? ⟨b, off + j * 3, none⟩ = some (.int .u16 (l[j]).1) ∧ w.cell? ⟨b, off + j * 3 + 1, none⟩ = some (.int .i64 (l[j]).2.1) ∧ w.cell? ⟨b, off + j * 3 + 2, none⟩ = some (.int .i64 (l[j]).2.2)
theorem EffsIn.below {w W : World} {A : Option Addr} {l : List (Int × Int × Int)} (h : EffsIn w A l) (hb : Below w.heap.size w W) : EffsIn W A l :=
  ⟨h.len, fun j hj => by
    obtain ⟨b, off, e, h0, h1, h2⟩ := h.at_ j hj
    exact ⟨b, off, e, (hb.cell (World.block_lt_of_cell? w _ h0)).trans h0, (hb.cell (World.block_lt_of_cell? w _ h1)).trans h1, (hb.cell (World.block_lt_of_cell? w _ h2)).trans h2⟩⟩
theorem EffsIn.nil (w : World) : EffsIn w none [] := ⟨by simp, fun j hj => by simp at hj⟩
/-- A row of banks that is read: number, how many bytes. -/
structure BanksIn (w : World) (A : Option Addr) (l : List (Int × Nat)) : Prop where
  len : l.length ≤ 1000000000000
  at_ : ∀ (j : Nat) (hj : j < l.length), ∃ b off, A = some ⟨b, off, none⟩ ∧ w.cell? ⟨b, off + j * 2, none⟩ = some (.int .i64 (l[j]).1) ∧ ∃ a c, w.cell? ⟨b, off + j * 2 + 1, none⟩ = some (.slice a (l[j]).2 c)
theorem BanksIn.below {w W : World} {A : Option Addr} {l : List (Int × Nat)} (h : BanksIn w A l) (hb : Below w.heap.size w W) : BanksIn W A l :=
  ⟨h.len, fun j hj => by
    obtain ⟨b, off, e, h0, a, c, h1⟩ := h.at_ j hj
    exact ⟨b, off, e, (hb.cell (World.block_lt_of_cell? w _ h0)).trans h0, a, c, (hb.cell (World.block_lt_of_cell? w _ h1)).trans h1⟩⟩
theorem BanksIn.nil (w : World) : BanksIn w none [] := ⟨by simp, fun j hj => by simp at hj⟩

def effOk (l : List (Int × Int × Int)) (i : Nat) : Bool := withinB (l.getD i (0, 0, 0)).2.1 256 && withinB (l.getD i (0, 0, 0)).2.2 256 && (decide (i = 0) || decide ((l.getD (i - 1) (0, 0, 0)).1 < (l.getD i (0, 0, 0)).1))
def bankOk (l : List (Int × Nat)) (i : Nat) : Bool := withinB (l.getD i (0, 0)).1 15 && decide ((l.getD i (0, 0)).2 ≤ 16384) && (decide (i = 0) || decide ((l.getD (i - 1) (0, 0)).1 < (l.getD i (0, 0)).1))
/-- May a cartridge be: how much code, effects, banks. -/
def cartOk (n : Nat) (E : List (Int × Int × Int)) (B : List (Int × Nat)) : Bool :=
  decide (n % 2 = 0) && decide (n ≤ 16384) && decide (E.length ≤ 8192) && (List.range E.length).all (effOk E) && (List.range B.length).all (bankOk B)
theorem all_range_no {p : Nat → Bool} {n i : Nat} (hi : i < n) (h : p i = false) : (List.range n).all p = false := by
  rw [List.all_eq_false]
  exact ⟨i, List.mem_range.2 hi, by simp [h]⟩
theorem all_range_yes {p : Nat → Bool} {n : Nat} (h : ∀ i, i < n → p i = true) : (List.range n).all p = true := by
  rw [List.all_eq_true]
  exact fun i hi => h i (List.mem_range.1 hi)
/-- What Check answers. -/
def CheckPost (w : World) (n : Nat) (E : List (Int × Int × Int)) (B : List (Int × Nat)) (e : Ending) (w' : World) : Prop :=
  e = .returned (.int .i64 (if cartOk n E B = true then 0 else 74)) ∧ Below w.heap.size w w'
theorem CheckPost.no {w w' : World} {n : Nat} {E : List (Int × Int × Int)} {B : List (Int × Nat)} (h : cartOk n E B = false) (hb : Below w.heap.size w w') : CheckPost w n E B (.returned (.int .i64 74)) w' := ⟨by rw [h]; rfl, hb⟩
theorem CheckPost.yes {w w' : World} {n : Nat} {E : List (Int × Int × Int)} {B : List (Int × Nat)} (h : cartOk n E B = true) (hb : Below w.heap.size w w') : CheckPost w n E B (.returned (.int .i64 0)) w' := ⟨by rw [h]; rfl, hb⟩
/-- The boxed cartridge, and nothing older turned. -/
structure CkW (w W : World) (c en ef bk : Value) : Prop where
  below : Below w.heap.size w W
  box : W.heap[w.heap.size]? = some (.cells #[c, en, ef, bk] 27 (0, 0))
theorem CkW.bel {w W W' : World} {c en ef bk : Value} (h : CkW w W c en ef bk) (hb : Below W.heap.size W W') : CkW w W' c en ef bk :=
  ⟨h.below.trans ⟨hb.os, hb.tape, hb.output, hb.size, fun i hi => hb.block i (by have := h.below.size; omega)⟩, (hb.block _ (heap_lt h.box)).trans h.box⟩
theorem CkW.cells {w W : World} {c en ef bk : Value} (h : CkW w W c en ef bk) : W.cell? ⟨w.heap.size, 0, none⟩ = some c ∧ W.cell? ⟨w.heap.size, 1, none⟩ = some en ∧ W.cell? ⟨w.heap.size, 2, none⟩ = some ef ∧ W.cell? ⟨w.heap.size, 3, none⟩ = some bk :=
  ⟨cell_of h.box 0, cell_of h.box 1, cell_of h.box 2, cell_of h.box 3⟩

set_option maxRecDepth 100000 in
set_option maxHeartbeats 16000000 in
theorem check_any (w : World) (A : Option Addr) (n c : Nat) (en : Value) (Ae : Option Addr) (ce : Nat) (E : List (Int × Int × Int)) (Ab : Option Addr) (cb : Nat) (B : List (Int × Nat)) (hn : n ≤ 1000000000000) (hE : EffsIn w Ae E) (hB : BanksIn w Ab B) :
    Calls Tryd.prog 31 #[.agg #[.slice A n c, en, .slice Ae E.length ce, .slice Ab B.length cb]] w fun e w' => CheckPost w n E B e w' := by
  have HE := Lib.hid hE
  have HB := Lib.hid hB
  have lenE := hE.len
  have lenB := hB.len
  have st : Hid (CkW w (w.alloc (.cells #[.slice A n c, en, .slice Ae E.length ce, .slice Ab B.length cb] 27)) (.slice A n c) en (.slice Ae E.length ce) (.slice Ab B.length cb)) :=
    ⟨(Below.refl _ _).alloc (Nat.le_refl _) _, heap_alloc_at _ _⟩
  obtain ⟨x0, x1, x2, x3⟩ := st.out.cells
  clear hE hB
  by_cases h1 : n % 2 = 0
  case neg =>
    have d1 : ((n : Int) % 2 != 0) = true := by simp; omega
    have no := Lib.hid (show cartOk n E B = false by simp [cartOk, h1])
    clear h1
    go_enter Tryd.func31, Tryd.ntmps31
    go_wp2_with (fail)
    go_ret
    exact CheckPost.no no.out st.out.below
  have d1 : ((n : Int) % 2 != 0) = false := by simp; omega
  by_cases h2 : n ≤ 16384
  case neg =>
    have d2 : decide ((16384 : Int) < (n : Int)) = true := by simp; omega
    have no := Lib.hid (show cartOk n E B = false by simp [cartOk, h2])
    clear h1 h2
    go_enter Tryd.func31, Tryd.ntmps31
    go_wp2_with (fail)
    go_ret
    exact CheckPost.no no.out st.out.below
  have d2 : decide ((16384 : Int) < (n : Int)) = false := by simp; omega
  by_cases h3 : E.length ≤ 8192
  case neg =>
    have d3 : decide ((8192 : Int) < (E.length : Int)) = true := by simp; omega
    have no := Lib.hid (show cartOk n E B = false by simp [cartOk, h3])
    clear h1 h2 h3
    go_enter Tryd.func31, Tryd.ntmps31
    go_wp2_with (fail)
    go_ret
    exact CheckPost.no no.out st.out.below
  have d3 : decide ((8192 : Int) < (E.length : Int)) = false := by simp; omega
  have H1 := Lib.hid h1
  have FIN : Hid ((∀ i, i < E.length → effOk E i = true) → (∀ i, i < B.length → bankOk B i = true) → cartOk n E B = true) := fun he hb => by
    unfold cartOk
    rw [all_range_yes he, all_range_yes hb]
    simp [H1.out, h2, h3]
  have NOE : Hid (∀ i, i < E.length → effOk E i = false → cartOk n E B = false) := fun i hi he => by
    unfold cartOk
    rw [all_range_no hi he]
    simp
  have NOB : Hid (∀ i, i < B.length → bankOk B i = false → cartOk n E B = false) := fun i hi he => by
    unfold cartOk
    rw [all_range_no hi he]
    simp
  clear h1
  go_enter Tryd.func31, Tryd.ntmps31
  go_wp2_with (fail)
  go_loopw [27] (fun p wr => ∃ i : Nat, p = .int .i64 i ∧ i ≤ E.length ∧ Hid (CkW w wr (.slice A n c) en (.slice Ae E.length ce) (.slice Ab B.length cb) ∧ ∀ j, j < i → effOk E j = true)) (fun p _ => E.length - (intOf p).toNat)
  case atStart => exact ⟨0, rfl, Nat.zero_le _, st.out, fun j hj => by omega⟩
  case round =>
    obtain ⟨i, rfl, hi, hr⟩ := hrel
    clear x0 x1 x2 x3
    by_cases hlt : i < E.length
    · obtain ⟨b, off, rfl, c0, c1, c2⟩ := HE.out.at_ i hlt
      have dg : decide ((i : Int) < (E.length : Int)) = true := by simp; omega
      have bi : (i : Int) < (E.length : Int) := by omega
      have LB := hr.out.1.below
      have c0 := (LB.cell (World.block_lt_of_cell? w _ c0)).trans c0
      have c1 := (LB.cell (World.block_lt_of_cell? w _ c1)).trans c1
      have c2 := (LB.cell (World.block_lt_of_cell? w _ c2)).trans c2
      have gd : E.getD i (0, 0, 0) = E[i] := by rw [List.getD_eq_getElem?_getD, List.getElem?_eq_getElem hlt]; rfl
      obtain ⟨x, hx⟩ : ∃ x, x = (E[i]).1 := ⟨_, rfl⟩
      obtain ⟨y, hy⟩ : ∃ y, y = (E[i]).2.1 := ⟨_, rfl⟩
      obtain ⟨z, hz⟩ : ∃ z, z = (E[i]).2.2 := ⟨_, rfl⟩
      rw [← hx] at c0; rw [← hy] at c1; rw [← hz] at c2
      have EO := Lib.hid (show effOk E i = (withinB y 256 && withinB z 256 && (decide (i = 0) || decide ((E.getD (i - 1) (0, 0, 0)).1 < x))) by unfold effOk; rw [gd, hx, hy, hz])
      have S5 := Lib.hid (hr.out.1.bel ((Below.refl wr.heap.size wr).alloc (Nat.le_refl _) (.cells #[.int .u16 x, .int .i64 y, .int .i64 z] 99)))
      obtain ⟨x0, x1, x2, x3⟩ := S5.out.cells
      have PV : Hid (∀ m, i = m + 1 → (World.alloc wr (.cells #[.int .u16 x, .int .i64 y, .int .i64 z] 99)).cell? ⟨b, off + m * 3, none⟩ = some (.int .u16 (E.getD (i - 1) (0, 0, 0)).1)) := fun m hm => by
        obtain ⟨b', off', e', q0, _⟩ := HE.out.at_ m (by omega)
        cases e'
        have gd : E.getD (i - 1) (0, 0, 0) = E[m] := by rw [show i - 1 = m by omega, List.getD_eq_getElem?_getD, List.getElem?_eq_getElem (by omega)]; rfl
        rw [gd]
        exact cell_alloc_old ((LB.cell (World.block_lt_of_cell? w _ q0)).trans q0)
      clear gd hx hy hz LB
      have NXT : Hid (effOk E i = true → ∀ nq, CkW w ((World.alloc wr (.cells #[.int .u16 x, .int .i64 y, .int .i64 z] 99)).drewN nq) (.slice A n c) en (.slice (some ⟨b, off, none⟩) E.length ce) (.slice Ab B.length cb) ∧ ∀ j, j < i + 1 → effOk E j = true) := fun he nq =>
        ⟨S5.out.bel (b_drewN (Below.refl _ _) nq), fun j hj => by
          by_cases e : j = i
          · rw [e]; exact he
          · exact hr.out.2 j (by omega)⟩
      have BEL : Hid (∀ nq, Below w.heap.size w ((World.alloc wr (.cells #[.int .u16 x, .int .i64 y, .int .i64 z] 99)).drewN nq)) := fun nq => b_drewN S5.out.below nq
      rcases h1 : withinB y 256 with _ | _
      · have no := Lib.hid (NOE.out i hlt (by rw [EO.out]; simp [h1]))
        go_wp2_with (fail)
        go_big_quiet (first | (go_at_call 47; refine Calls.quiet_of_same (within_any _ _ _)))
        go_wp2_with (fail)
        go_ret
        exact CheckPost.no no.out (BEL.out _)
      · rcases h2 : withinB z 256 with _ | _
        · have no := Lib.hid (NOE.out i hlt (by rw [EO.out]; simp [h1, h2]))
          go_wp2_with (fail)
          go_big_quiet (first | (go_at_call 47; refine Calls.quiet_of_same (within_any _ _ _)))
          go_wp2_with (fail)
          go_ret
          exact CheckPost.no no.out (BEL.out _)
        · by_cases hi0 : i = 0
          · subst hi0
            simp only [Nat.zero_mul, Nat.add_zero, Nat.zero_add] at c0 c1 c2
            have nx := Lib.hid (NXT.out (by rw [EO.out]; simp [h1, h2]))
            go_wp2_with (fail)
            go_big_quiet (first | (go_at_call 47; refine Calls.quiet_of_same (within_any _ _ _)))
            go_wp2_with (fail)
            go_roundw
            case rel => exact ⟨0 + 1, by go_num, by omega, nx.out _⟩
            case measure => first | (simp [intOf]; done) | (simp [intOf]; omega)
          · obtain ⟨m, rfl⟩ : ∃ m, i = m + 1 := ⟨i - 1, by omega⟩
            have pv := PV.out m rfl
            obtain ⟨u, hu⟩ : ∃ u, u = (E.getD (m + 1 - 1) (0, 0, 0)).1 := ⟨_, rfl⟩
            rw [Nat.add_sub_cancel] at hu
            rw [Nat.add_sub_cancel, ← hu] at pv
            have HU := Lib.hid hu
            have wm := wrapN' m (by omega)
            have z0 : (0 : Int) ≤ (m : Int) + 1 := by omega
            have z1 : (m : Int) < (E.length : Int) := by omega
            have z3 : decide ((0 : Int) < (m : Int) + 1) = true := decide_eq_true (by omega)
            clear hu
            by_cases hux : u < x
            · have d5 : decide (x ≤ u) = false := by simp; omega
              have nx := Lib.hid (NXT.out (by rw [EO.out]; rw [Nat.add_sub_cancel, ← HU.out]; simp [h1, h2, hux]))
              go_wp2_with (fail)
              go_big_quiet (first | (go_at_call 47; refine Calls.quiet_of_same (within_any _ _ _)))
              go_wp2_with (fail)
              go_roundw
              case rel => exact ⟨m + 1 + 1, by go_num, by omega, nx.out _⟩
              case measure => first | (simp [intOf]; done) | (simp [intOf]; omega)
            · have d5 : decide (x ≤ u) = true := by simp; omega
              have no := Lib.hid (NOE.out (m + 1) hlt (by rw [EO.out]; rw [Nat.add_sub_cancel, ← HU.out]; simp [h1, h2]; omega))
              go_wp2_with (fail)
              go_big_quiet (first | (go_at_call 47; refine Calls.quiet_of_same (within_any _ _ _)))
              go_wp2_with (fail)
              go_ret
              exact CheckPost.no no.out (BEL.out _)
    · have hie : i = E.length := by omega
      have EOK : Hid (∀ j, j < E.length → effOk E j = true) := by rw [← hie]; exact hr.out.2
      obtain ⟨x0, x1, x2, x3⟩ := hr.out.1.cells
      have S2 := Lib.hid hr.out.1
      have dg : decide ((i : Int) < (E.length : Int)) = false := by simp; omega
      clear hr hie
      go_wp2_with (fail)
      go_loopw [62] (fun p wr => ∃ i : Nat, p = .int .i64 i ∧ i ≤ B.length ∧ Hid (CkW w wr (.slice A n c) en (.slice Ae E.length ce) (.slice Ab B.length cb) ∧ ∀ j, j < i → bankOk B j = true)) (fun p _ => B.length - (intOf p).toNat)
      case atStart => exact ⟨0, rfl, Nat.zero_le _, S2.out, fun j hj => by omega⟩
      case round =>
        obtain ⟨i, rfl, hi, hr⟩ := hrel
        clear x0 x1 x2 x3
        by_cases hlt : i < B.length
        · obtain ⟨b, off, rfl, c0, a1, k1, c1⟩ := HB.out.at_ i hlt
          have dg : decide ((i : Int) < (B.length : Int)) = true := by simp; omega
          have bi : (i : Int) < (B.length : Int) := by omega
          have LB := hr.out.1.below
          have c0 := (LB.cell (World.block_lt_of_cell? w _ c0)).trans c0
          have c1 := (LB.cell (World.block_lt_of_cell? w _ c1)).trans c1
          have gd : B.getD i (0, 0) = B[i] := by rw [List.getD_eq_getElem?_getD, List.getElem?_eq_getElem hlt]; rfl
          obtain ⟨x, hx⟩ : ∃ x, x = (B[i]).1 := ⟨_, rfl⟩
          obtain ⟨z, hz⟩ : ∃ z, z = (B[i]).2 := ⟨_, rfl⟩
          rw [← hx] at c0; rw [← hz] at c1
          have EO := Lib.hid (show bankOk B i = (withinB x 15 && decide (z ≤ 16384) && (decide (i = 0) || decide ((B.getD (i - 1) (0, 0)).1 < x))) by unfold bankOk; rw [gd, hx, hz])
          have S5 := Lib.hid (hr.out.1.bel ((Below.refl wr.heap.size wr).alloc (Nat.le_refl _) (.cells #[.int .i64 x, .slice a1 z k1] 102)))
          obtain ⟨x0, x1, x2, x3⟩ := S5.out.cells
          have PV : Hid (∀ m, i = m + 1 → (World.alloc wr (.cells #[.int .i64 x, .slice a1 z k1] 102)).cell? ⟨b, off + m * 2, none⟩ = some (.int .i64 (B.getD (i - 1) (0, 0)).1)) := fun m hm => by
            obtain ⟨b', off', e', q0, _⟩ := HB.out.at_ m (by omega)
            cases e'
            have gd : B.getD (i - 1) (0, 0) = B[m] := by rw [show i - 1 = m by omega, List.getD_eq_getElem?_getD, List.getElem?_eq_getElem (by omega)]; rfl
            rw [gd]
            exact cell_alloc_old ((LB.cell (World.block_lt_of_cell? w _ q0)).trans q0)
          clear gd hx hz LB
          have NXT : Hid (bankOk B i = true → ∀ nq, CkW w ((World.alloc wr (.cells #[.int .i64 x, .slice a1 z k1] 102)).drewN nq) (.slice A n c) en (.slice Ae E.length ce) (.slice (some ⟨b, off, none⟩) B.length cb) ∧ ∀ j, j < i + 1 → bankOk B j = true) := fun he nq =>
            ⟨S5.out.bel (b_drewN (Below.refl _ _) nq), fun j hj => by
              by_cases e : j = i
              · rw [e]; exact he
              · exact hr.out.2 j (by omega)⟩
          have BEL : Hid (∀ nq, Below w.heap.size w ((World.alloc wr (.cells #[.int .i64 x, .slice a1 z k1] 102)).drewN nq)) := fun nq => b_drewN S5.out.below nq
          rcases h1 : withinB x 15 with _ | _
          · have no := Lib.hid (NOB.out i hlt (by rw [EO.out]; simp [h1]))
            go_wp2_with (fail)
            go_big_quiet (first | (go_at_call 47; refine Calls.quiet_of_same (within_any _ _ _)))
            go_wp2_with (fail)
            go_ret
            exact CheckPost.no no.out (BEL.out _)
          · by_cases h2 : z ≤ 16384
            case neg =>
              have dz : decide ((16384 : Int) < (z : Int)) = true := by simp; omega
              have no := Lib.hid (NOB.out i hlt (by rw [EO.out]; simp [h1, h2]))
              go_wp2_with (fail)
              go_big_quiet (first | (go_at_call 47; refine Calls.quiet_of_same (within_any _ _ _)))
              go_wp2_with (fail)
              go_ret
              exact CheckPost.no no.out (BEL.out _)
            case pos =>
              have dz : decide ((16384 : Int) < (z : Int)) = false := by simp; omega
              by_cases hi0 : i = 0
              · subst hi0
                simp only [Nat.zero_mul, Nat.add_zero, Nat.zero_add] at c0 c1
                have nx := Lib.hid (NXT.out (by rw [EO.out]; simp [h1, h2]))
                go_wp2_with (fail)
                go_big_quiet (first | (go_at_call 47; refine Calls.quiet_of_same (within_any _ _ _)))
                go_wp2_with (fail)
                go_roundw
                case rel => exact ⟨0 + 1, by go_num, by omega, nx.out _⟩
                case measure => first | (simp [intOf]; done) | (simp [intOf]; omega)
              · obtain ⟨m, rfl⟩ : ∃ m, i = m + 1 := ⟨i - 1, by omega⟩
                have pv := PV.out m rfl
                obtain ⟨u, hu⟩ : ∃ u, u = (B.getD (m + 1 - 1) (0, 0)).1 := ⟨_, rfl⟩
                rw [Nat.add_sub_cancel] at hu
                rw [Nat.add_sub_cancel, ← hu] at pv
                have HU := Lib.hid hu
                have wm := wrapN' m (by omega)
                have z0 : (0 : Int) ≤ (m : Int) + 1 := by omega
                have z1 : (m : Int) < (B.length : Int) := by omega
                have z3 : decide ((0 : Int) < (m : Int) + 1) = true := decide_eq_true (by omega)
                clear hu
                by_cases hux : u < x
                · have d5 : decide (x ≤ u) = false := by simp; omega
                  have nx := Lib.hid (NXT.out (by rw [EO.out]; rw [Nat.add_sub_cancel, ← HU.out]; simp [h1, h2, hux]))
                  go_wp2_with (fail)
                  go_big_quiet (first | (go_at_call 47; refine Calls.quiet_of_same (within_any _ _ _)))
                  go_wp2_with (fail)
                  go_roundw
                  case rel => exact ⟨m + 1 + 1, by go_num, by omega, nx.out _⟩
                  case measure => first | (simp [intOf]; done) | (simp [intOf]; omega)
                · have d5 : decide (x ≤ u) = true := by simp; omega
                  have no := Lib.hid (NOB.out (m + 1) hlt (by rw [EO.out]; rw [Nat.add_sub_cancel, ← HU.out]; simp [h1, h2]; omega))
                  go_wp2_with (fail)
                  go_big_quiet (first | (go_at_call 47; refine Calls.quiet_of_same (within_any _ _ _)))
                  go_wp2_with (fail)
                  go_ret
                  exact CheckPost.no no.out (BEL.out _)
        · have hie : i = B.length := by omega
          have yes := Lib.hid (FIN.out EOK.out (by rw [← hie]; exact hr.out.2))
          have dg : decide ((i : Int) < (B.length : Int)) = false := by simp; omega
          clear hie
          go_wp2_with (fail)
          go_ret
          exact CheckPost.yes yes.out hr.out.1.below
end Go.Proofs.YtabeljpnmmfpgaaDoor
