/-
  Sorting a row of addresses: the heap.
-/
import Derived.Test.YtabeljpnmmfpgaaDoorFlSort
namespace Go.Proofs.YtabeljpnmmfpgaaDoor
open Go.RowKit Go.MapKept
set_option linter.unusedVariables false
set_option linter.unusedSimpArgs false

/-- From lo on none is less than its children (the heap's root lies at f). -/
def Hp (f lo hi : Nat) (e : Nat → Int) : Prop := ∀ p c, lo ≤ p → (c = 2 * p + 1 ∨ c = 2 * p + 2) → c < hi → e (f + c) ≤ e (f + p)
/-- But for r this is so, and r's parent is not less than r's children. -/
def SD (f lo hi r : Nat) (e : Nat → Int) : Prop :=
  (∀ p c, lo ≤ p → p ≠ r → (c = 2 * p + 1 ∨ c = 2 * p + 2) → c < hi → e (f + c) ≤ e (f + p)) ∧
  (∀ p c, lo ≤ p → (r = 2 * p + 1 ∨ r = 2 * p + 2) → (c = 2 * r + 1 ∨ c = 2 * r + 2) → c < hi → e (f + c) ≤ e (f + p))
theorem SD.start {f lo hi : Nat} {e : Nat → Int} (h : Hp f (lo + 1) hi e) : SD f lo hi lo e :=
  ⟨fun p c h1 h2 h3 h4 => h p c (by omega) h3 h4, fun p c h1 h2 h3 h4 => by omega⟩
theorem SD.done {f lo hi r : Nat} {e : Nat → Int} (h : SD f lo hi r e) (hr : ∀ c, (c = 2 * r + 1 ∨ c = 2 * r + 2) → c < hi → e (f + c) ≤ e (f + r)) : Hp f lo hi e := fun p c h1 h2 h3 => by
  by_cases e1 : p = r
  · subst e1; exact hr c h2 h3
  · exact h.1 p c h1 e1 h2 h3
theorem SD.step {f lo hi r c : Nat} {e : Nat → Int} (h : SD f lo hi r e) (hl : lo ≤ r) (hc : c = 2 * r + 1 ∨ c = 2 * r + 2) (hch : c < hi) (hm : ∀ c', (c' = 2 * r + 1 ∨ c' = 2 * r + 2) → c' < hi → e (f + c') ≤ e (f + c)) (hlt : e (f + r) < e (f + c)) : SD f lo hi c (sw e (f + r) (f + c)) := by
  have E : ∀ k, sw e (f + r) (f + c) (f + k) = if k = r then e (f + c) else if k = c then e (f + r) else e (f + k) := fun k => by
    unfold sw
    by_cases e1 : k = r
    · rw [if_pos (by omega), if_pos e1]
    · rw [if_neg (by omega), if_neg e1]
      by_cases e2 : k = c
      · rw [if_pos (by omega), if_pos e2]
      · rw [if_neg (by omega), if_neg e2]
  obtain ⟨h1, h2⟩ := h
  constructor
  · intro p k hp hpc hk hkh
    rw [E, E]
    by_cases p1 : p = r
    · rw [if_pos p1, if_neg (by omega)]
      by_cases k2 : k = c
      · rw [if_pos k2]; omega
      · rw [if_neg k2]; exact hm k (by omega) hkh
    · rw [if_neg p1, if_neg hpc]
      by_cases k1 : k = r
      · rw [if_pos k1]
        exact h2 p c hp (by omega) hc hch
      · rw [if_neg k1, if_neg (by omega)]
        exact h1 p k hp p1 hk hkh
  · intro p k hp hpc hk hkh
    have e1 : p = r := by omega
    rw [E, E, if_neg (by omega), if_neg (by omega), if_pos e1]
    exact h1 c k (by omega) (by omega) hk hkh
theorem Hp.top {f hi : Nat} {e : Nat → Int} (h : Hp f 0 hi e) : ∀ N k, k ≤ N → k < hi → e (f + k) ≤ e f
  | 0, k, hN, _ => by
    have : k = 0 := by omega
    rw [this]; exact Int.le_refl _
  | N + 1, k, hN, hk => by
    by_cases k0 : k = 0
    · rw [k0]; exact Int.le_refl _
    · have h1 := h ((k - 1) / 2) k (by omega) (by omega) hk
      exact Int.le_trans h1 (Hp.top h N ((k - 1) / 2) (by omega) (by omega))
/-- While the greatest are taken out: the first i are a heap, the others stand in their places. -/
def HS (f hi i : Nat) (e : Nat → Int) : Prop := Hp f 0 i e ∧ ∀ x y, x ≤ y → i ≤ y → y < hi → e (f + x) ≤ e (f + y)
theorem HS.pop {f hi i : Nat} {e : Nat → Int} (h : HS f hi (i + 1) e) : Hp f 1 i (sw e f (f + i)) ∧ ∀ x y, x ≤ y → i ≤ y → y < hi → sw e f (f + i) (f + x) ≤ sw e f (f + i) (f + y) := by
  have E : ∀ k, sw e f (f + i) (f + k) = if k = 0 then e (f + i) else if k = i then e f else e (f + k) := fun k => by
    unfold sw
    by_cases e1 : k = 0
    · rw [if_pos (by omega), if_pos e1]
    · rw [if_neg (by omega), if_neg e1]
      by_cases e2 : k = i
      · rw [if_pos (by omega), if_pos e2]
      · rw [if_neg (by omega), if_neg e2]
  obtain ⟨h1, h2⟩ := h
  have T := h1.top i
  constructor
  · intro p c hp hc hch
    rw [E, E, if_neg (by omega), if_neg (by omega), if_neg (by omega), if_neg (by omega)]
    exact h1 p c (by omega) hc (by omega)
  · intro x y hxy hy hyh
    rw [E, E]
    by_cases x0 : x = 0
    · rw [if_pos x0]
      by_cases y0 : y = 0
      · rw [if_pos y0]; exact Int.le_refl _
      · rw [if_neg y0]
        by_cases yi : y = i
        · rw [if_pos yi]; exact T i (Nat.le_refl _) (by omega)
        · rw [if_neg yi]; exact h2 i y (by omega) (by omega) hyh
    · rw [if_neg x0, if_neg (by omega : ¬ y = 0)]
      by_cases xi : x = i
      · rw [if_pos xi]
        by_cases yi : y = i
        · rw [if_pos yi]; exact Int.le_refl _
        · rw [if_neg yi]; exact h2 0 y (by omega) (by omega) hyh
      · rw [if_neg xi]
        by_cases yi : y = i
        · rw [if_pos yi]; exact T x (by omega) (by omega)
        · rw [if_neg yi]; exact h2 x y hxy (by omega) hyh
theorem HS.next {f hi i : Nat} {e e' : Nat → Int} (h2 : ∀ x y, x ≤ y → i ≤ y → y < hi → e (f + x) ≤ e (f + y)) (hp : Pm (f + 0) (f + i) e e') (h1 : Hp f 0 i e') : HS f hi i e' := by
  refine ⟨h1, fun x y hxy hy hyh => ?_⟩
  rw [hp.out (f + y) (by omega)]
  by_cases hx : x < i
  · obtain ⟨m, m1, m2, m3⟩ := hp.mem (f + x) (by omega) (by omega)
    rw [m3]
    have := h2 (m - f) y (by omega) hy hyh
    rwa [show f + (m - f) = m by omega] at this
  · rw [hp.out (f + x) (by omega)]; exact h2 x y hxy hy hyh
theorem HS.done {f hi : Nat} {e : Nat → Int} (h : HS f hi 0 e) : Asc f (f + hi) e := fun x y h1 h2 h3 => by
  have := h.2 (x - f) (y - f) (by omega) (by omega) (by omega)
  rwa [show f + (x - f) = x by omega, show f + (y - f) = y by omega] at this
set_option maxRecDepth 100000 in
set_option maxHeartbeats 8000000 in
theorem sift_any (w : World) (g n c f lo hi : Nat) (d : Nat → Int) (h : Rw w w g n d) (hh : Hp f (lo + 1) hi d) (hf : f + hi ≤ n) (hlo : lo ≤ hi) (hn : n < 65536) :
    Calls Tryd.prog 98 #[.slice (some ⟨g, 0, none⟩) n c, .int .i64 lo, .int .i64 hi, .int .i64 f] w fun e w' => e = .returned (.tuple #[]) ∧ Hid (∃ d', Rw w w' g n d' ∧ Pm (f + lo) (f + hi) d d' ∧ Hp f lo hi d') := by
  have H := Lib.hid h
  have HH := Lib.hid hh
  clear h hh
  go_enter Tryd.func98, Tryd.ntmps98
  go_wp2_with (fail)
  go_loopw [8] (fun p wr => ∃ r : Nat, p = .int .i64 r ∧ lo ≤ r ∧ (r < hi ∨ r = lo) ∧ ∃ e, Hid (Rw w wr g n e ∧ Pm (f + lo) (f + hi) d e ∧ SD f lo hi r e)) (fun p _ => hi - (intOf p).toNat)
  case atStart => exact ⟨lo, rfl, Nat.le_refl _, .inr rfl, d, H.out, Pm.refl _ _ _, SD.start HH.out⟩
  case round =>
    obtain ⟨r, rfl, hr1, hr2, e, hrel⟩ := hrel
    obtain ⟨q, hq⟩ : ∃ q, q = 2 * r + 1 := ⟨_, rfl⟩
    have EQ : Hid (2 * (r : Int) + 1 = (q : Int)) := show _ = _ by omega
    have EQ0 := Lib.hid hq
    have hrq : r < q := by omega
    have hq2 : q = r + r + 1 := by omega
    have hq3 := Lib.hid hq2
    clear hq hq2
    by_cases h1 : q < hi
    · have dg1 : decide ((hi : Int) ≤ 2 * (r : Int) + 1) = false := by rw [EQ.out]; simp; omega
      have f0 := hrel.out.1.free
      have cz := hrel.out.1.cell (j := f + r) (by omega)
      have cq := hrel.out.1.cell (j := f + q) (by omega)
      obtain ⟨z, hz⟩ : ∃ z, z = e (f + r) := ⟨_, rfl⟩
      obtain ⟨x, hx⟩ : ∃ x, x = e (f + q) := ⟨_, rfl⟩
      rw [← hz] at cz; rw [← hx] at cq
      have HZ := Lib.hid hz; have HX := Lib.hid hx
      have b0 : (f : Int) + (r : Int) < (n : Int) := by omega
      have b1 : (f : Int) + (q : Int) < (n : Int) := by omega
      clear hz hx
      by_cases h2 : q + 1 < hi
      · have dg2 : decide ((q : Int) + 1 < (hi : Int)) = true := by simp; omega
        have cy := hrel.out.1.cell (j := f + q + 1) (by omega)
        obtain ⟨y, hy⟩ : ∃ y, y = e (f + q + 1) := ⟨_, rfl⟩
        rw [← hy] at cy
        have HY := Lib.hid hy
        have b2 : (f : Int) + (q : Int) + 1 < (n : Int) := by omega
        clear hy
        by_cases hxy : x < y
        · have d0 : decide (x < y) = true := by simpa using hxy
          go_upto_region 3 with (fail)
          rw [EQ.out]
          go_big_quiet (first | (go_at_call 94; refine Calls.quiet_of_same (less_any _ _ _)))
          obtain ⟨q2, hq2⟩ : ∃ q2, q2 = q + 1 := ⟨_, rfl⟩
          have EQ2 : Hid ((q : Int) + 1 = (q2 : Int)) := show _ = _ by omega
          go_upto_region 5 with (fail)
          rw [EQ2.out]
          have hm : ∀ c', (c' = 2 * r + 1 ∨ c' = 2 * r + 2) → c' < hi → e (f + c') ≤ e (f + q2) := fun c' hc _ => by
            have k1 := EQ0.out
            have ex := HX.out; have ey := HY.out
            rcases hc with hc | hc
            · have : c' = q := by omega
              rw [this, hq2, show f + (q + 1) = f + q + 1 by omega]; omega
            · have : c' = q2 := by omega
              rw [this]; exact Int.le_refl _
          have HM := Lib.hid hm
          have cy : wr.cell? ⟨g, f + q2, none⟩ = some (.int .u16 y) := by rw [hq2, show f + (q + 1) = f + q + 1 by omega]; exact cy
          have HU : Hid (y = e (f + q2)) := by rw [hq2, show f + (q + 1) = f + q + 1 by omega]; exact HY
          have b3 : (f : Int) + (q2 : Int) < (n : Int) := by omega
          have q2r : r < q2 := by omega
          have q2h : q2 < hi := by omega
          have EQ3 := Lib.hid hq2
          clear hm hq2
          obtain ⟨u, hu⟩ : ∃ u, u = y := ⟨_, rfl⟩
          subst hu
          generalize hW0 : World.drewN wr _ = W0
          have HR0 : Hid (Rw w W0 g n e) := hW0 ▸ hrel.out.1.quiet ⟨_, rfl⟩
          have f0 := HR0.out.free
          have cz : W0.cell? ⟨g, f + r, none⟩ = some (.int .u16 z) := hW0 ▸ cz
          have cu : W0.cell? ⟨g, f + q2, none⟩ = some (.int .u16 u) := hW0 ▸ cy
          clear hW0
          have hsw : Hid (∀ nq W', W' = ((W0.drewN nq).setCell ⟨g, f + r, none⟩ (.int .u16 u)).setCell ⟨g, f + q2, none⟩ (.int .u16 z) → z < u → Rw w W' g n (sw e (f + r) (f + q2)) ∧ Pm (f + lo) (f + hi) d (sw e (f + r) (f + q2)) ∧ SD f lo hi q2 (sw e (f + r) (f + q2))) := by
            rintro nq W' rfl hlt
            have qq : Rw w (W0.drewN nq) g n e := HR0.out.quiet ⟨nq, rfl⟩
            have := qq.swap (f + r) (f + q2)
            rw [HU.out, HZ.out]
            exact ⟨this, hrel.out.2.1.swap (by omega) (by omega) (by omega) (by omega), hrel.out.2.2.step hr1 (by have := EQ0.out; have := EQ3.out; omega) (by omega) HM.out (by rw [← HU.out, ← HZ.out]; exact hlt)⟩
          by_cases hl : z < u
          · have d1 : decide (z < u) = true := by simpa using hl
            go_wp2_with (fail)
            go_big_quiet (first | (go_at_call 94; refine Calls.quiet_of_same (less_any _ _ _)))
            go_wp2_with (fail)
            go_region
            all_goals
              go_wp2_with (fail)
              go_roundw
              case rel => exact ⟨q2, rfl, by omega, .inl (by omega), _, hsw.out _ _ rfl hl⟩
              case measure => first | (simp [intOf]; done) | (simp [intOf]; omega)
          · have d1 : decide (z < u) = false := by simpa using hl
            have fin : Hid (∀ nq, ∃ d', Rw w (W0.drewN nq) g n d' ∧ Pm (f + lo) (f + hi) d d' ∧ Hp f lo hi d') := fun nq =>
              ⟨e, HR0.out.quiet ⟨nq, rfl⟩, hrel.out.2.1, hrel.out.2.2.done (fun c' h1 h2 => Int.le_trans (HM.out c' h1 h2) (by rw [← HU.out, ← HZ.out]; omega))⟩
            go_wp2_with (fail)
            go_big_quiet (first | (go_at_call 94; refine Calls.quiet_of_same (less_any _ _ _)))
            go_wp2_with (fail)
            first | go_end0 | refine bodyPost_ret (results_none rfl _ _ _) rfl ?_
            exact ⟨rfl, fin.out _⟩
        · have d0 : decide (x < y) = false := by simpa using hxy
          go_upto_region 3 with (fail)
          rw [EQ.out]
          go_big_quiet (first | (go_at_call 94; refine Calls.quiet_of_same (less_any _ _ _)))
          go_upto_region 5 with (fail)
          have hm : ∀ c', (c' = 2 * r + 1 ∨ c' = 2 * r + 2) → c' < hi → e (f + c') ≤ e (f + q) := fun c' hc _ => by
            have k1 := EQ0.out
            have ex := HX.out; have ey := HY.out
            rcases hc with hc | hc
            · have : c' = q := by omega
              rw [this]; exact Int.le_refl _
            · have : c' = q + 1 := by omega
              rw [this, show f + (q + 1) = f + q + 1 by omega]; omega
          have HM := Lib.hid hm
          have HU := HX
          have EQ3 := EQ0
          clear hm
          obtain ⟨u, hu⟩ : ∃ u, u = x := ⟨_, rfl⟩
          subst hu
          generalize hW0 : World.drewN wr _ = W0
          have HR0 : Hid (Rw w W0 g n e) := hW0 ▸ hrel.out.1.quiet ⟨_, rfl⟩
          have f0 := HR0.out.free
          have cz : W0.cell? ⟨g, f + r, none⟩ = some (.int .u16 z) := hW0 ▸ cz
          have cu : W0.cell? ⟨g, f + q, none⟩ = some (.int .u16 u) := hW0 ▸ cq
          clear hW0
          have hsw : Hid (∀ nq W', W' = ((W0.drewN nq).setCell ⟨g, f + r, none⟩ (.int .u16 u)).setCell ⟨g, f + q, none⟩ (.int .u16 z) → z < u → Rw w W' g n (sw e (f + r) (f + q)) ∧ Pm (f + lo) (f + hi) d (sw e (f + r) (f + q)) ∧ SD f lo hi q (sw e (f + r) (f + q))) := by
            rintro nq W' rfl hlt
            have qq : Rw w (W0.drewN nq) g n e := HR0.out.quiet ⟨nq, rfl⟩
            have := qq.swap (f + r) (f + q)
            rw [HU.out, HZ.out]
            exact ⟨this, hrel.out.2.1.swap (by omega) (by omega) (by omega) (by omega), hrel.out.2.2.step hr1 (by have := EQ0.out; have := EQ3.out; omega) (by omega) HM.out (by rw [← HU.out, ← HZ.out]; exact hlt)⟩
          by_cases hl : z < u
          · have d1 : decide (z < u) = true := by simpa using hl
            go_wp2_with (fail)
            go_big_quiet (first | (go_at_call 94; refine Calls.quiet_of_same (less_any _ _ _)))
            go_wp2_with (fail)
            go_region
            all_goals
              go_wp2_with (fail)
              go_roundw
              case rel => exact ⟨q, rfl, by omega, .inl (by omega), _, hsw.out _ _ rfl hl⟩
              case measure => first | (simp [intOf]; done) | (simp [intOf]; omega)
          · have d1 : decide (z < u) = false := by simpa using hl
            have fin : Hid (∀ nq, ∃ d', Rw w (W0.drewN nq) g n d' ∧ Pm (f + lo) (f + hi) d d' ∧ Hp f lo hi d') := fun nq =>
              ⟨e, HR0.out.quiet ⟨nq, rfl⟩, hrel.out.2.1, hrel.out.2.2.done (fun c' h1 h2 => Int.le_trans (HM.out c' h1 h2) (by rw [← HU.out, ← HZ.out]; omega))⟩
            go_wp2_with (fail)
            go_big_quiet (first | (go_at_call 94; refine Calls.quiet_of_same (less_any _ _ _)))
            go_wp2_with (fail)
            first | go_end0 | refine bodyPost_ret (results_none rfl _ _ _) rfl ?_
            exact ⟨rfl, fin.out _⟩
      · have dg2 : decide ((q : Int) + 1 < (hi : Int)) = false := by simp; omega
        go_upto_region 3 with (fail)
        rw [EQ.out]
        go_big_quiet (first | (go_at_call 94; refine Calls.quiet_of_same (less_any _ _ _)))
        go_upto_region 5 with (fail)
        have hm : ∀ c', (c' = 2 * r + 1 ∨ c' = 2 * r + 2) → c' < hi → e (f + c') ≤ e (f + q) := fun c' hc hch => by
          have k1 := EQ0.out
          have : c' = q := by omega
          rw [this]; exact Int.le_refl _
        have HM := Lib.hid hm
        have HU := HX
        have EQ3 := EQ0
        clear hm
        obtain ⟨u, hu⟩ : ∃ u, u = x := ⟨_, rfl⟩
        subst hu
        generalize hW0 : World.drewN wr _ = W0
        have HR0 : Hid (Rw w W0 g n e) := hW0 ▸ hrel.out.1.quiet ⟨_, rfl⟩
        have f0 := HR0.out.free
        have cz : W0.cell? ⟨g, f + r, none⟩ = some (.int .u16 z) := hW0 ▸ cz
        have cu : W0.cell? ⟨g, f + q, none⟩ = some (.int .u16 u) := hW0 ▸ cq
        clear hW0
        have hsw : Hid (∀ nq W', W' = ((W0.drewN nq).setCell ⟨g, f + r, none⟩ (.int .u16 u)).setCell ⟨g, f + q, none⟩ (.int .u16 z) → z < u → Rw w W' g n (sw e (f + r) (f + q)) ∧ Pm (f + lo) (f + hi) d (sw e (f + r) (f + q)) ∧ SD f lo hi q (sw e (f + r) (f + q))) := by
          rintro nq W' rfl hlt
          have qq : Rw w (W0.drewN nq) g n e := HR0.out.quiet ⟨nq, rfl⟩
          have := qq.swap (f + r) (f + q)
          rw [HU.out, HZ.out]
          exact ⟨this, hrel.out.2.1.swap (by omega) (by omega) (by omega) (by omega), hrel.out.2.2.step hr1 (by have := EQ0.out; have := EQ3.out; omega) (by omega) HM.out (by rw [← HU.out, ← HZ.out]; exact hlt)⟩
        by_cases hl : z < u
        · have d1 : decide (z < u) = true := by simpa using hl
          go_wp2_with (fail)
          go_big_quiet (first | (go_at_call 94; refine Calls.quiet_of_same (less_any _ _ _)))
          go_wp2_with (fail)
          go_region
          all_goals
            go_wp2_with (fail)
            go_roundw
            case rel => exact ⟨q, rfl, by omega, .inl (by omega), _, hsw.out _ _ rfl hl⟩
            case measure => first | (simp [intOf]; done) | (simp [intOf]; omega)
        · have d1 : decide (z < u) = false := by simpa using hl
          have fin : Hid (∀ nq, ∃ d', Rw w (W0.drewN nq) g n d' ∧ Pm (f + lo) (f + hi) d d' ∧ Hp f lo hi d') := fun nq =>
            ⟨e, HR0.out.quiet ⟨nq, rfl⟩, hrel.out.2.1, hrel.out.2.2.done (fun c' h1 h2 => Int.le_trans (HM.out c' h1 h2) (by rw [← HU.out, ← HZ.out]; omega))⟩
          go_wp2_with (fail)
          go_big_quiet (first | (go_at_call 94; refine Calls.quiet_of_same (less_any _ _ _)))
          go_wp2_with (fail)
          first | go_end0 | refine bodyPost_ret (results_none rfl _ _ _) rfl ?_
          exact ⟨rfl, fin.out _⟩
    · have dg1 : decide ((hi : Int) ≤ 2 * (r : Int) + 1) = true := by rw [EQ.out]; simp; omega
      have fin : Hid (∃ d', Rw w wr g n d' ∧ Pm (f + lo) (f + hi) d d' ∧ Hp f lo hi d') := ⟨e, hrel.out.1, hrel.out.2.1, hrel.out.2.2.done (fun c' hc hch => by have := EQ0.out; omega)⟩
      go_wp2_with (fail)
      first | go_end0 | refine bodyPost_ret (results_none rfl _ _ _) rfl ?_
      exact ⟨rfl, fin.out⟩

set_option maxRecDepth 100000 in
set_option maxHeartbeats 8000000 in
theorem heap_any (w : World) (g n c a b : Nat) (d : Nat → Int) (h : Rw w w g n d) (hab : a + 1 ≤ b) (hb : b ≤ n) (hn : n < 65536) :
    Calls Tryd.prog 89 #[.slice (some ⟨g, 0, none⟩) n c, .int .i64 a, .int .i64 b] w fun e w' => e = .returned (.tuple #[]) ∧ Hid (∃ d', Rw w w' g n d' ∧ Pm a b d d' ∧ Asc a b d') := by
  obtain ⟨l, hl⟩ : ∃ l, b = a + l := ⟨b - a, by omega⟩
  have EL : Hid ((b : Int) - (a : Int) = (l : Int)) := show _ = _ by omega
  have EB := Lib.hid hl
  have l1 : 1 ≤ l := by omega
  have l2 : a + l ≤ n := by omega
  have H := Lib.hid h
  have SI : Hid (∀ (W : World) (lo hi : Nat) (e : Nat → Int), Rw w W g n e → Hp a (lo + 1) hi e → hi ≤ l → lo ≤ hi →
      Calls Tryd.prog 98 #[.slice (some ⟨g, 0, none⟩) n c, .int .i64 lo, .int .i64 hi, .int .i64 a] W fun r w' => r = .returned (.tuple #[]) ∧ Hid (∃ d', Rw w w' g n d' ∧ Pm (a + lo) (a + hi) e d' ∧ Hp a lo hi d')) := fun W lo hi e h1 h2 h3 h4 =>
    (sift_any W g n c a lo hi e h1.self h2 (by omega) h4 hn).mono fun r w' ⟨k1, d', k2, k3, k4⟩ => ⟨k1, d', h1.trans k2, k3, k4⟩
  clear h hl
  go_enter Tryd.func89, Tryd.ntmps89
  go_upto_region 3 with (fail)
  rw [EL.out]
  go_wp2_with (fail)
  go_loopw [9] (fun p wr => ∃ i : Nat, p = .int .i64 ((i : Int) - 1) ∧ i ≤ l ∧ ∃ e, Hid (Rw w wr g n e ∧ Pm a b d e ∧ Hp a i l e)) (fun p _ => (intOf p + 1).toNat)
  case atStart => exact ⟨(l - 1) / 2 + 1, by congr 1; omega, by omega, d, H.out, Pm.refl _ _ _, fun p c h1 h2 h3 => by omega⟩
  case round =>
    obtain ⟨i, rfl, hi, e, hrel⟩ := hrel
    cases i with
    | succ i =>
      have E1 : Hid ((((i + 1 : Nat) : Int)) - 1 = (i : Int)) := show _ = _ by omega
      rw [E1.out]
      go_wp2_with (fail)
      refine (SI.out _ i l e hrel.out.1 hrel.out.2.2 (Nat.le_refl _) (by omega)).mono ?_
      rintro r W ⟨rfl, hs⟩
      have nxt : Hid (∃ e, Rw w W g n e ∧ Pm a b d e ∧ Hp a i l e) := by
        obtain ⟨e', k1, k2, k3⟩ := hs.out
        exact ⟨e', k1, hrel.out.2.1.trans (k2.mono (by omega) (by rw [EB.out]; exact Nat.le_refl _)), k3⟩
      clear hs
      go_wp2_with (fail)
      go_roundw
      case rel => obtain ⟨e', k⟩ := nxt.out; exact ⟨i, rfl, by omega, e', k⟩
      case measure => first | (simp [intOf]; done) | (simp [intOf]; omega)
    | zero =>
      have E1 : Hid ((((0 : Nat) : Int)) - 1 = -1) := show _ = _ by omega
      rw [E1.out]
      have hs0 : Hid (HS a l l e) := ⟨hrel.out.2.2, fun x y h1 h2 h3 => by omega⟩
      have R0 := Lib.hid hrel.out.1
      have P0 := Lib.hid hrel.out.2.1
      clear hrel
      go_wp2_with (fail)
      go_loopw [10] (fun p wr => ∃ i : Nat, p = .int .i64 ((i : Int) - 1) ∧ i ≤ l ∧ ∃ e, Hid (Rw w wr g n e ∧ Pm a b d e ∧ HS a l i e)) (fun p _ => (intOf p + 1).toNat)
      case atStart => exact ⟨l, rfl, Nat.le_refl _, e, R0.out, P0.out, hs0.out⟩
      case round =>
        obtain ⟨i, rfl, hi, e, hrel⟩ := hrel
        cases i with
        | succ i =>
          have E1 : Hid ((((i + 1 : Nat) : Int)) - 1 = (i : Int)) := show _ = _ by omega
          rw [E1.out]
          have f0 := hrel.out.1.free
          have ca := hrel.out.1.cell (j := a) (by omega)
          have ci := hrel.out.1.cell (j := a + i) (by omega)
          obtain ⟨x, hx⟩ : ∃ x, x = e a := ⟨_, rfl⟩
          obtain ⟨y, hy⟩ : ∃ y, y = e (a + i) := ⟨_, rfl⟩
          rw [← hx] at ca; rw [← hy] at ci
          have sv := (hrel.out.1.set a y).cell (j := a + i) (by omega)
          obtain ⟨vv, hvv⟩ : ∃ vv, (wr.setCell ⟨g, a, none⟩ (.int .u16 y)).cell? ⟨g, a + i, none⟩ = some vv := ⟨_, sv⟩
          have b0 : (a : Int) < (n : Int) := by omega
          have b1 : (a : Int) + (i : Int) < (n : Int) := by omega
          have nxt : Hid (∀ W', W' = ((wr.setCell ⟨g, a, none⟩ (.int .u16 y)).setCell ⟨g, a + i, none⟩ (.int .u16 x)).drew → Rw w W' g n (sw e a (a + i))) := by
            rintro W' rfl
            rw [hx, hy]
            exact (hrel.out.1.swap a (a + i)).quiet ⟨1, rfl⟩
          clear hx hy sv
          go_wp2_with (fail)
          go_region
          all_goals
            go_wp2_with (fail)
            refine (SI.out _ 0 i (sw e a (a + i)) (nxt.out _ rfl) hrel.out.2.2.pop.1 (by omega) (by omega)).mono ?_
            rintro r W ⟨rfl, hs⟩
            have nx2 : Hid (∃ e, Rw w W g n e ∧ Pm a b d e ∧ HS a l i e) := by
              obtain ⟨e', k1, k2, k3⟩ := hs.out
              have eb := EB.out
              exact ⟨e', k1, (hrel.out.2.1.swap (Nat.le_refl _) (by omega) (by omega) (by omega)).trans (k2.mono (by omega) (by omega)), HS.next hrel.out.2.2.pop.2 k2 k3⟩
            clear hs
            go_wp2_with (fail)
            go_roundw
            case rel => obtain ⟨e', k⟩ := nx2.out; exact ⟨i, rfl, by omega, e', k⟩
            case measure => first | (simp [intOf]; done) | (simp [intOf]; omega)
        | zero =>
          have E1 : Hid ((((0 : Nat) : Int)) - 1 = -1) := show _ = _ by omega
          rw [E1.out]
          have fin : Hid (∃ d', Rw w wr g n d' ∧ Pm a b d d' ∧ Asc a b d') := ⟨e, hrel.out.1, hrel.out.2.1, by rw [EB.out]; exact hrel.out.2.2.done⟩
          go_wp2_with (fail)
          first | go_end0 | refine bodyPost_ret (results_none rfl _ _ _) rfl ?_
          exact ⟨rfl, fin.out⟩
end Go.Proofs.YtabeljpnmmfpgaaDoor
