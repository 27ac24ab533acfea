/-
  The document's own check of a cartridge: wispref07.Check.
-/
import Derived.BigQuiet
import Derived.Test.YtabeljpnmmfpgaaDoorFlCheck
namespace Go.Proofs.YtabeljpnmmfpgaaDoor
open Go.RowKit Go.MapKept
set_option linter.unusedVariables false
set_option linter.unusedSimpArgs false

set_option maxRecDepth 100000 in
set_option maxHeartbeats 16000000 in
/-- The document's check of a cartridge. -/
theorem rcheck_any (w : World) (A : Option Addr) (n c : Nat) (en : Value) (Ae : Option Addr) (ce : Nat) (E : List (Int × Int × Int)) (Ab : Option Addr) (cb : Nat) (B : List (Int × Nat)) (hn : n ≤ 1000000000000) (hE : EffsIn w Ae E) (hB : BanksIn w Ab B) :
    Calls Tryd.prog 36 #[.agg #[.slice A n c, en, .slice Ae E.length ce, .slice Ab B.length cb]] w fun e w' => CheckPost w n E B e w' := by
  have HE := Lib.hid hE
  have HB := Lib.hid hB
  have lenE := hE.len
  have lenB := hB.len
  have st : Hid (CkW w (w.alloc (.cells #[.slice A n c, en, .slice Ae E.length ce, .slice Ab B.length cb] 27)) (.slice A n c) en (.slice Ae E.length ce) (.slice Ab B.length cb)) :=
    ⟨(Below.refl _ _).alloc (Nat.le_refl _) _, heap_alloc_at _ _⟩
  obtain ⟨x0, x1, x2, x3⟩ := st.out.cells
  clear hE hB
  by_cases h1 : n % 2 = 0
  case neg =>
    have d1 : ((n : Int) % 2 != 0) = true := by simp; omega
    have no := Lib.hid (show cartOk n E B = false by simp [cartOk, h1])
    clear h1
    go_enter Tryd.func36, Tryd.ntmps36
    go_wp2_with (fail)
    go_ret
    exact CheckPost.no no.out st.out.below
  have d1 : ((n : Int) % 2 != 0) = false := by simp; omega
  by_cases h2 : n ≤ 16384
  case neg =>
    have d2 : decide ((16384 : Int) < (n : Int)) = true := by simp; omega
    have no := Lib.hid (show cartOk n E B = false by simp [cartOk, h2])
    clear h1 h2
    go_enter Tryd.func36, Tryd.ntmps36
    go_wp2_with (fail)
    go_ret
    exact CheckPost.no no.out st.out.below
  have d2 : decide ((16384 : Int) < (n : Int)) = false := by simp; omega
  by_cases h3 : E.length ≤ 8192
  case neg =>
    have d3 : decide ((8192 : Int) < (E.length : Int)) = true := by simp; omega
    have no := Lib.hid (show cartOk n E B = false by simp [cartOk, h3])
    clear h1 h2 h3
    go_enter Tryd.func36, Tryd.ntmps36
    go_wp2_with (fail)
    go_ret
    exact CheckPost.no no.out st.out.below
  have d3 : decide ((8192 : Int) < (E.length : Int)) = false := by simp; omega
  have H1 := Lib.hid h1
  have FIN : Hid ((∀ i, i < E.length → effOk E i = true) → (∀ i, i < B.length → bankOk B i = true) → cartOk n E B = true) := fun he hb => by
    unfold cartOk
    rw [all_range_yes he, all_range_yes hb]
    simp [H1.out, h2, h3]
  have NOE : Hid (∀ i, i < E.length → effOk E i = false → cartOk n E B = false) := fun i hi he => by
    unfold cartOk
    rw [all_range_no hi he]
    simp
  have NOB : Hid (∀ i, i < B.length → bankOk B i = false → cartOk n E B = false) := fun i hi he => by
    unfold cartOk
    rw [all_range_no hi he]
    simp
  clear h1
  go_enter Tryd.func36, Tryd.ntmps36
  go_wp2_with (fail)
  go_loopw [3] (fun p wr => ∃ i : Nat, p = .int .i64 i ∧ i ≤ E.length ∧ Hid (CkW w wr (.slice A n c) en (.slice Ae E.length ce) (.slice Ab B.length cb) ∧ ∀ j, j < i → effOk E j = true)) (fun p _ => E.length - (intOf p).toNat)
  case atStart => exact ⟨0, rfl, Nat.zero_le _, st.out, fun j hj => by omega⟩
  case round =>
    obtain ⟨i, rfl, hi, hr⟩ := hrel
    clear x0 x1 x2 x3
    obtain ⟨q0, q1, q2, q3⟩ := hr.out.1.cells
    by_cases hlt : i < E.length
    · obtain ⟨b, off, rfl, c0, c1, c2⟩ := HE.out.at_ i hlt
      have dg : decide ((i : Int) < (E.length : Int)) = true := by simp; omega
      have bi : (i : Int) < (E.length : Int) := by omega
      have LB := hr.out.1.below
      have c0 := (LB.cell (World.block_lt_of_cell? w _ c0)).trans c0
      have c1 := (LB.cell (World.block_lt_of_cell? w _ c1)).trans c1
      have c2 := (LB.cell (World.block_lt_of_cell? w _ c2)).trans c2
      have gd : E.getD i (0, 0, 0) = E[i] := by rw [List.getD_eq_getElem?_getD, List.getElem?_eq_getElem hlt]; rfl
      obtain ⟨x, hx⟩ : ∃ x, x = (E[i]).1 := ⟨_, rfl⟩
      obtain ⟨y, hy⟩ : ∃ y, y = (E[i]).2.1 := ⟨_, rfl⟩
      obtain ⟨z, hz⟩ : ∃ z, z = (E[i]).2.2 := ⟨_, rfl⟩
      rw [← hx] at c0; rw [← hy] at c1; rw [← hz] at c2
      have EO := Lib.hid (show effOk E i = (withinB y 256 && withinB z 256 && (decide (i = 0) || decide ((E.getD (i - 1) (0, 0, 0)).1 < x))) by unfold effOk; rw [gd, hx, hy, hz])
      have S5 := Lib.hid (hr.out.1.bel ((Below.refl wr.heap.size wr).alloc (Nat.le_refl _) (.cells #[.int .u16 x, .int .i64 y, .int .i64 z] 99)))
      obtain ⟨x0, x1, x2, x3⟩ := S5.out.cells
      have PV : Hid (∀ m, i = m + 1 → (World.alloc wr (.cells #[.int .u16 x, .int .i64 y, .int .i64 z] 99)).cell? ⟨b, off + m * 3, none⟩ = some (.int .u16 (E.getD (i - 1) (0, 0, 0)).1)) := fun m hm => by
        obtain ⟨b', off', e', q0, _⟩ := HE.out.at_ m (by omega)
        cases e'
        have gd : E.getD (i - 1) (0, 0, 0) = E[m] := by rw [show i - 1 = m by omega, List.getD_eq_getElem?_getD, List.getElem?_eq_getElem (by omega)]; rfl
        rw [gd]
        exact cell_alloc_old ((LB.cell (World.block_lt_of_cell? w _ q0)).trans q0)
      clear gd hx hy hz LB
      have NXT : Hid (effOk E i = true → ∀ nq, CkW w ((World.alloc wr (.cells #[.int .u16 x, .int .i64 y, .int .i64 z] 99)).drewN nq) (.slice A n c) en (.slice (some ⟨b, off, none⟩) E.length ce) (.slice Ab B.length cb) ∧ ∀ j, j < i + 1 → effOk E j = true) := fun he nq =>
        ⟨S5.out.bel (b_drewN (Below.refl _ _) nq), fun j hj => by
          by_cases e : j = i
          · rw [e]; exact he
          · exact hr.out.2 j (by omega)⟩
      have BEL : Hid (∀ nq, Below w.heap.size w ((World.alloc wr (.cells #[.int .u16 x, .int .i64 y, .int .i64 z] 99)).drewN nq)) := fun nq => b_drewN S5.out.below nq
      by_cases y0 : y < 0
      case pos =>
        have d1 : decide (y < (0 : Int)) = true := decide_eq_true y0
        have no := Lib.hid (NOE.out i hlt (by rw [EO.out]; have : withinB y 256 = false := by (unfold withinB; simp; omega)
                                              simp [this]))
        clear y0
        go_wp2_with (fail)
        go_quiet (fail)
        go_wp2_with (fail)
        go_ret
        exact CheckPost.no no.out (BEL.out _)
      case neg =>
      have d1 : decide (y < (0 : Int)) = false := decide_eq_false y0
      by_cases y1 : 256 < y
      case pos =>
        have d2' : decide ((256 : Int) < y) = true := decide_eq_true y1
        have no := Lib.hid (NOE.out i hlt (by rw [EO.out]; have : withinB y 256 = false := by (unfold withinB; simp; omega)
                                              simp [this]))
        clear y0 y1
        go_wp2_with (fail)
        go_quiet (fail)
        go_wp2_with (fail)
        go_ret
        exact CheckPost.no no.out (BEL.out _)
      case neg =>
      have d2' : decide ((256 : Int) < y) = false := decide_eq_false y1
      have h1 : withinB y 256 = true := by unfold withinB; simp; omega
      by_cases z0 : z < 0
      case pos =>
        have d3' : decide (z < (0 : Int)) = true := decide_eq_true z0
        have no := Lib.hid (NOE.out i hlt (by rw [EO.out]; have : withinB z 256 = false := by (unfold withinB; simp; omega)
                                              simp [this]))
        clear y0 y1 z0 h1
        go_wp2_with (fail)
        go_quiet (fail)
        go_wp2_with (fail)
        go_ret
        exact CheckPost.no no.out (BEL.out _)
      case neg =>
      have d3' : decide (z < (0 : Int)) = false := decide_eq_false z0
      by_cases z1 : 256 < z
      case pos =>
        have d4' : decide ((256 : Int) < z) = true := decide_eq_true z1
        have no := Lib.hid (NOE.out i hlt (by rw [EO.out]; have : withinB z 256 = false := by (unfold withinB; simp; omega)
                                              simp [this]))
        clear y0 y1 z0 z1 h1
        go_wp2_with (fail)
        go_quiet (fail)
        go_wp2_with (fail)
        go_ret
        exact CheckPost.no no.out (BEL.out _)
      case neg =>
        have d4' : decide ((256 : Int) < z) = false := decide_eq_false z1
        have h2 : withinB z 256 = true := by unfold withinB; simp; omega
        clear y0 y1 z0 z1
        by_cases hi0 : i = 0
        · subst hi0
          simp only [Nat.zero_mul, Nat.add_zero, Nat.zero_add] at c0 c1 c2
          have nx := Lib.hid (NXT.out (by rw [EO.out]; simp [h1, h2]))
          go_wp2_with (fail)
          go_quiet (fail)
          go_wp2_with (fail)
          go_roundw
          case rel => exact ⟨0 + 1, by go_num, by omega, nx.out _⟩
          case measure => first | (simp [intOf]; done) | (simp [intOf]; omega)
        · obtain ⟨m, rfl⟩ : ∃ m, i = m + 1 := ⟨i - 1, by omega⟩
          have pv := PV.out m rfl
          obtain ⟨u, hu⟩ : ∃ u, u = (E.getD (m + 1 - 1) (0, 0, 0)).1 := ⟨_, rfl⟩
          rw [Nat.add_sub_cancel] at hu
          rw [Nat.add_sub_cancel, ← hu] at pv
          have HU := Lib.hid hu
          have wm := wrapN' m (by omega)
          have z0 : (0 : Int) ≤ (m : Int) + 1 := by omega
          have z1 : (m : Int) < (E.length : Int) := by omega
          have z3 : decide ((0 : Int) < (m : Int) + 1) = true := decide_eq_true (by omega)
          clear hu
          by_cases hux : u < x
          · have d5 : decide (x ≤ u) = false := by simp; omega
            have nx := Lib.hid (NXT.out (by rw [EO.out]; rw [Nat.add_sub_cancel, ← HU.out]; simp [h1, h2, hux]))
            go_wp2_with (fail)
            go_quiet (fail)
            go_wp2_with (fail)
            go_roundw
            case rel => exact ⟨m + 1 + 1, by go_num, by omega, nx.out _⟩
            case measure => first | (simp [intOf]; done) | (simp [intOf]; omega)
          · have d5 : decide (x ≤ u) = true := by simp; omega
            have no := Lib.hid (NOE.out (m + 1) hlt (by rw [EO.out]; rw [Nat.add_sub_cancel, ← HU.out]; simp [h1, h2]; omega))
            go_wp2_with (fail)
            go_quiet (fail)
            go_wp2_with (fail)
            go_ret
            exact CheckPost.no no.out (BEL.out _)
    · have hie : i = E.length := by omega
      have EOK : Hid (∀ j, j < E.length → effOk E j = true) := by rw [← hie]; exact hr.out.2
      obtain ⟨x0, x1, x2, x3⟩ := hr.out.1.cells
      have S2 := Lib.hid hr.out.1
      have dg : decide ((i : Int) < (E.length : Int)) = false := by simp; omega
      clear hr hie
      go_wp2_with (fail)
      go_loopw [5] (fun p wr => ∃ i : Nat, p = .int .i64 i ∧ i ≤ B.length ∧ Hid (CkW w wr (.slice A n c) en (.slice Ae E.length ce) (.slice Ab B.length cb) ∧ ∀ j, j < i → bankOk B j = true)) (fun p _ => B.length - (intOf p).toNat)
      case atStart => exact ⟨0, rfl, Nat.zero_le _, S2.out, fun j hj => by omega⟩
      case round =>
        obtain ⟨i, rfl, hi, hr⟩ := hrel
        clear x0 x1 x2 x3
        obtain ⟨q0, q1, q2, q3⟩ := hr.out.1.cells
        by_cases hlt : i < B.length
        · obtain ⟨b, off, rfl, c0, a1, k1, c1⟩ := HB.out.at_ i hlt
          have dg : decide ((i : Int) < (B.length : Int)) = true := by simp; omega
          have bi : (i : Int) < (B.length : Int) := by omega
          have LB := hr.out.1.below
          have c0 := (LB.cell (World.block_lt_of_cell? w _ c0)).trans c0
          have c1 := (LB.cell (World.block_lt_of_cell? w _ c1)).trans c1
          have gd : B.getD i (0, 0) = B[i] := by rw [List.getD_eq_getElem?_getD, List.getElem?_eq_getElem hlt]; rfl
          obtain ⟨x, hx⟩ : ∃ x, x = (B[i]).1 := ⟨_, rfl⟩
          obtain ⟨z, hz⟩ : ∃ z, z = (B[i]).2 := ⟨_, rfl⟩
          rw [← hx] at c0; rw [← hz] at c1
          have EO := Lib.hid (show bankOk B i = (withinB x 15 && decide (z ≤ 16384) && (decide (i = 0) || decide ((B.getD (i - 1) (0, 0)).1 < x))) by unfold bankOk; rw [gd, hx, hz])
          have S5 := Lib.hid (hr.out.1.bel ((Below.refl wr.heap.size wr).alloc (Nat.le_refl _) (.cells #[.int .i64 x, .slice a1 z k1] 102)))
          obtain ⟨x0, x1, x2, x3⟩ := S5.out.cells
          have PV : Hid (∀ m, i = m + 1 → (World.alloc wr (.cells #[.int .i64 x, .slice a1 z k1] 102)).cell? ⟨b, off + m * 2, none⟩ = some (.int .i64 (B.getD (i - 1) (0, 0)).1)) := fun m hm => by
            obtain ⟨b', off', e', q0, _⟩ := HB.out.at_ m (by omega)
            cases e'
            have gd : B.getD (i - 1) (0, 0) = B[m] := by rw [show i - 1 = m by omega, List.getD_eq_getElem?_getD, List.getElem?_eq_getElem (by omega)]; rfl
            rw [gd]
            exact cell_alloc_old ((LB.cell (World.block_lt_of_cell? w _ q0)).trans q0)
          clear gd hx hz LB
          have NXT : Hid (bankOk B i = true → ∀ nq, CkW w ((World.alloc wr (.cells #[.int .i64 x, .slice a1 z k1] 102)).drewN nq) (.slice A n c) en (.slice Ae E.length ce) (.slice (some ⟨b, off, none⟩) B.length cb) ∧ ∀ j, j < i + 1 → bankOk B j = true) := fun he nq =>
            ⟨S5.out.bel (b_drewN (Below.refl _ _) nq), fun j hj => by
              by_cases e : j = i
              · rw [e]; exact he
              · exact hr.out.2 j (by omega)⟩
          have BEL : Hid (∀ nq, Below w.heap.size w ((World.alloc wr (.cells #[.int .i64 x, .slice a1 z k1] 102)).drewN nq)) := fun nq => b_drewN S5.out.below nq
          by_cases x0' : x < 0
          case pos =>
            have e1 : decide (x < (0 : Int)) = true := decide_eq_true x0'
            have no := Lib.hid (NOB.out i hlt (by rw [EO.out]; have : withinB x 15 = false := by (unfold withinB; simp; omega)
                                                  simp [this]))
            clear x0'
            go_wp2_with (fail)
            go_quiet (fail)
            go_wp2_with (fail)
            go_ret
            exact CheckPost.no no.out (BEL.out _)
          case neg =>
          have e1 : decide (x < (0 : Int)) = false := decide_eq_false x0'
          by_cases x1' : 15 < x
          case pos =>
            have e2 : decide ((15 : Int) < x) = true := decide_eq_true x1'
            have no := Lib.hid (NOB.out i hlt (by rw [EO.out]; have : withinB x 15 = false := by (unfold withinB; simp; omega)
                                                  simp [this]))
            clear x0' x1'
            go_wp2_with (fail)
            go_quiet (fail)
            go_wp2_with (fail)
            go_ret
            exact CheckPost.no no.out (BEL.out _)
          case neg =>
            have e2 : decide ((15 : Int) < x) = false := decide_eq_false x1'
            have h1 : withinB x 15 = true := by unfold withinB; simp; omega
            clear x0' x1'
            by_cases h2 : z ≤ 16384
            case neg =>
              have dz : decide ((16384 : Int) < (z : Int)) = true := by simp; omega
              have no := Lib.hid (NOB.out i hlt (by rw [EO.out]; simp [h1, h2]))
              go_wp2_with (fail)
              go_quiet (fail)
              go_wp2_with (fail)
              go_ret
              exact CheckPost.no no.out (BEL.out _)
            case pos =>
              have dz : decide ((16384 : Int) < (z : Int)) = false := by simp; omega
              by_cases hi0 : i = 0
              · subst hi0
                simp only [Nat.zero_mul, Nat.add_zero, Nat.zero_add] at c0 c1
                have nx := Lib.hid (NXT.out (by rw [EO.out]; simp [h1, h2]))
                go_wp2_with (fail)
                go_quiet (fail)
                go_wp2_with (fail)
                go_roundw
                case rel => exact ⟨0 + 1, by go_num, by omega, nx.out _⟩
                case measure => first | (simp [intOf]; done) | (simp [intOf]; omega)
              · obtain ⟨m, rfl⟩ : ∃ m, i = m + 1 := ⟨i - 1, by omega⟩
                have pv := PV.out m rfl
                obtain ⟨u, hu⟩ : ∃ u, u = (B.getD (m + 1 - 1) (0, 0)).1 := ⟨_, rfl⟩
                rw [Nat.add_sub_cancel] at hu
                rw [Nat.add_sub_cancel, ← hu] at pv
                have HU := Lib.hid hu
                have wm := wrapN' m (by omega)
                have z0 : (0 : Int) ≤ (m : Int) + 1 := by omega
                have z1 : (m : Int) < (B.length : Int) := by omega
                have z3 : decide ((0 : Int) < (m : Int) + 1) = true := decide_eq_true (by omega)
                clear hu
                by_cases hux : u < x
                · have d5 : decide (x ≤ u) = false := by simp; omega
                  have nx := Lib.hid (NXT.out (by rw [EO.out]; rw [Nat.add_sub_cancel, ← HU.out]; simp [h1, h2, hux]))
                  go_wp2_with (fail)
                  go_quiet (fail)
                  go_wp2_with (fail)
                  go_roundw
                  case rel => exact ⟨m + 1 + 1, by go_num, by omega, nx.out _⟩
                  case measure => first | (simp [intOf]; done) | (simp [intOf]; omega)
                · have d5 : decide (x ≤ u) = true := by simp; omega
                  have no := Lib.hid (NOB.out (m + 1) hlt (by rw [EO.out]; rw [Nat.add_sub_cancel, ← HU.out]; simp [h1, h2]; omega))
                  go_wp2_with (fail)
                  go_quiet (fail)
                  go_wp2_with (fail)
                  go_ret
                  exact CheckPost.no no.out (BEL.out _)
        · have hie : i = B.length := by omega
          have yes := Lib.hid (FIN.out EOK.out (by rw [← hie]; exact hr.out.2))
          have dg : decide ((i : Int) < (B.length : Int)) = false := by simp; omega
          clear hie
          go_wp2_with (fail)
          go_ret
          exact CheckPost.yes yes.out hr.out.1.below
end Go.Proofs.YtabeljpnmmfpgaaDoor
