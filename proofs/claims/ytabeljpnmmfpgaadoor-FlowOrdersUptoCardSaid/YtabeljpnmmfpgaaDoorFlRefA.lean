/-
  The reference's has, all, and the law's sameCells.
-/
import Derived.BigQuiet
import Derived.Test.YtabeljpnmmfpgaaDoorFlHas
namespace Go.Proofs.YtabeljpnmmfpgaaDoor
open Go.RowKit Go.MapKept Go.Maps Go.Sort
set_option linter.unusedVariables false
set_option linter.unusedSimpArgs false

set_option maxRecDepth 100000 in
set_option maxHeartbeats 2000000 in
theorem rhas_any (w : World) (A : Option Addr) (n c : Nat) (l : List Int) (x : Int) (hn : n = l.length) (h : AtsIn w A l) :
    Calls Tryd.prog 39 #[.slice A n c, .int .u16 x] w fun e w' => e = .returned (.bool (decide (x ∈ l))) ∧ w' = w := by
  have HA := Lib.hid h
  have HN := Lib.hid hn
  have hl : n ≤ 1000000000000 := by rw [hn]; exact h.len
  clear h hn
  go_enter Tryd.func39, Tryd.ntmps39
  go_wp2_with (fail)
  go_loopw [5] (fun i wr => ∃ k : Nat, k ≤ n ∧ i = .int .i64 k ∧ wr = w ∧ Hid (x ∉ l.take k)) (fun i _ => n - (intOf i).toNat)
  case atStart => exact ⟨0, Nat.zero_le _, rfl, rfl, Lib.hid (by simp)⟩
  case round =>
    obtain ⟨k, hk, rfl, rfl, hx⟩ := hrel
    by_cases hlt : k < n
    · have hlk : k < l.length := by rw [← HN.out]; exact hlt
      obtain ⟨b, off, rfl, c0⟩ := HA.out.at_ k hlk
      obtain ⟨y, hy⟩ : ∃ y, y = l[k] := ⟨_, rfl⟩
      rw [← hy] at c0
      have HY := Lib.hid hy
      have TK := Lib.hid (List.take_append_getElem hlk)
      clear hy
      by_cases e : y = x
      · have hm : decide (x ∈ l) = true := by
          rw [decide_eq_true_eq, ← e, HY.out]; exact List.getElem_mem hlk
        subst e
        go_wp2_with (fail)
        go_ret
        exact ⟨by rw [hm]; rfl, rfl⟩
      · have hx2 : Hid (x ∉ l.take (k + 1)) := fun hm => by
          have h1 := TK.out
          rw [← h1] at hm
          rcases List.mem_append.1 hm with hm | hm
          · exact hx.out hm
          · simp only [List.mem_singleton] at hm
            exact e (by rw [HY.out, hm])
        go_wp2_with (fail)
        go_roundw
        case rel => exact ⟨k + 1, hlt, by go_num, by first | rfl | trivial, hx2⟩
        case measure => first | (simp [intOf]; done) | (simp [intOf]; omega)
    · have hm : decide (x ∈ l) = false := by
        have h1 := hx.out
        rw [List.take_of_length_le (by have := HN.out; omega)] at h1
        simpa using h1
      go_wp2_with (fail)
      go_ret
      exact ⟨by rw [hm]; rfl, rfl⟩

set_option maxRecDepth 100000 in
set_option maxHeartbeats 2000000 in
theorem rall_any (w : World) (A B : Option Addr) (n c m d : Nat) (T l : List Int) (hn : n = T.length) (hm : m = l.length) (h : AtsIn w A T) (hl : AtsIn w B l) :
    Calls Tryd.prog 46 #[.slice A n c, .slice B m d] w fun e w' => e = .returned (.bool (!(l.any fun y => decide (y ∉ T)))) ∧ w' = w := by
  have HR := Lib.hid (fun x => rhas_any w A n c T x hn h)
  have HB := Lib.hid hl
  have HM := Lib.hid hm
  have hl1 : m ≤ 1000000000000 := by rw [hm]; exact hl.len
  obtain ⟨q, hq⟩ : ∃ q, q = l.any fun y => decide (y ∉ T) := ⟨_, rfl⟩
  rw [← hq]
  have HQ := Lib.hid hq
  clear h hl hn hm hq
  go_enter Tryd.func46, Tryd.ntmps46
  go_wp2_with (fail)
  go_loopw [5] (fun i wr => ∃ k : Nat, k ≤ m ∧ i = .int .i64 k ∧ wr = w ∧ Hid ((l.take k).any (fun y => decide (y ∉ T)) = false)) (fun i _ => m - (intOf i).toNat)
  case atStart => exact ⟨0, Nat.zero_le _, rfl, rfl, Lib.hid (by simp)⟩
  case round =>
    obtain ⟨k, hk, rfl, rfl, hx⟩ := hrel
    by_cases hlt : k < m
    · have hlk : k < l.length := by rw [← HM.out]; exact hlt
      obtain ⟨b, off, rfl, c0⟩ := HB.out.at_ k hlk
      obtain ⟨y, hy⟩ : ∃ y, y = l[k] := ⟨_, rfl⟩
      rw [← hy] at c0
      have HY := Lib.hid hy
      have TK := Lib.hid (List.take_append_getElem hlk)
      have hkm : (k : Int) < (m : Int) := by omega
      clear hy
      by_cases e : y ∈ T
      · have dm : decide (y ∈ T) = true := decide_eq_true e
        have hx2 : Hid ((l.take (k + 1)).any (fun y => decide (y ∉ T)) = false) := by
          show _ = _
          rw [← TK.out, List.any_append, hx.out, ← HY.out]
          simp [e]
        have HS := Lib.hid (HR.out y)
        rw [dm] at HS
        clear e dm
        go_wp2_with (fail)
        refine HS.out.mono ?_
        rintro e w' ⟨rfl, rfl⟩
        go_wp2_with (fail)
        go_roundw
        case rel => exact ⟨k + 1, hlt, by go_num, by first | rfl | trivial, hx2⟩
        case measure => first | (simp [intOf]; done) | (simp [intOf]; omega)
      · have dm : decide (y ∈ T) = false := decide_eq_false e
        have fin : Hid (q = true) := HQ.out.trans (List.any_eq_true.2 ⟨y, by rw [HY.out]; exact List.getElem_mem hlk, by simpa using e⟩)
        have HS := Lib.hid (HR.out y)
        rw [dm] at HS
        clear e dm
        go_wp2_with (fail)
        refine HS.out.mono ?_
        rintro e w' ⟨rfl, rfl⟩
        go_wp2_with (fail)
        go_ret
        exact ⟨by rw [fin.out]; rfl, rfl⟩
    · have fin : Hid (q = false) := by
        have h1 := hx.out
        rw [List.take_of_length_le (by have := HM.out; omega)] at h1
        exact HQ.out.trans h1
      have hkm : ¬ (k : Int) < (m : Int) := by omega
      go_wp2_with (fail)
      go_ret
      exact ⟨by rw [fin.out]; rfl, rfl⟩

theorem same_take {a b : List Int} {k : Nat} (h : a.take k = b.take k) (ha : k < a.length) (hb : k < b.length) (e : a[k] = b[k]) : a.take (k + 1) = b.take (k + 1) := by
  rw [← List.take_append_getElem ha, ← List.take_append_getElem hb, h, e]
set_option maxRecDepth 100000 in
set_option maxHeartbeats 2000000 in
theorem sameCells_any (w : World) (A B : Option Addr) (n c m d : Nat) (a b : List Int) (hn : n = a.length) (hm : m = b.length) (h : AtsIn w A a) (hl : AtsIn w B b) :
    Calls Tryd.prog 29 #[.slice A n c, .slice B m d] w fun e w' => e = .returned (.bool (decide (a = b))) ∧ Below w.heap.size w w' := by
  have HA := Lib.hid h
  have HB := Lib.hid hl
  have HN := Lib.hid hn
  have HM := Lib.hid hm
  have hl1 : n ≤ 1000000000000 := by rw [hn]; exact h.len
  clear h hl hn hm
  go_enter Tryd.func29, Tryd.ntmps29
  by_cases hnm : n = m
  · subst hnm
    go_wp2_with (fail)
    go_loopw [5] (fun i wr => ∃ k : Nat, k ≤ n ∧ i = .int .i64 k ∧ Hid (Below w.heap.size w wr) ∧ Hid (a.take k = b.take k)) (fun i _ => n - (intOf i).toNat)
    case atStart => exact ⟨0, Nat.zero_le _, rfl, Lib.hid (Below.refl _ _), Lib.hid (by simp)⟩
    case round =>
      obtain ⟨k, hk, rfl, hw, hx⟩ := hrel
      by_cases hlt : k < n
      · have hka : k < a.length := by rw [← HN.out]; exact hlt
        have hkb : k < b.length := by rw [← HM.out]; exact hlt
        obtain ⟨b1, o1, rfl, c0⟩ := HA.out.at_ k hka
        obtain ⟨b2, o2, rfl, d0⟩ := HB.out.at_ k hkb
        have c1 := keep_cell c0 hw.out
        have d1 := keep_cell d0 hw.out
        have TK := Lib.hid (same_take hx.out hka hkb)
        obtain ⟨x, hx'⟩ : ∃ x, x = a[k] := ⟨_, rfl⟩
        obtain ⟨y, hy'⟩ : ∃ y, y = b[k] := ⟨_, rfl⟩
        have NE : Hid (x ≠ y → a ≠ b) := fun hne e => hne (by rw [hx', hy']; simp only [e])
        rw [← hx'] at c1 TK
        rw [← hy'] at d1 TK
        have hkm : (k : Int) < (n : Int) := by omega
        have NX : Hid (∀ nq, Below w.heap.size w (wr.drewN nq)) := fun nq => b_drewN hw.out nq
        clear hx' hy' c0 d0 hw
        by_cases e : x = y
        · have hx2 := Lib.hid (TK.out e)
          subst e
          go_wp2_with (fail)
          go_quiet (fail)
          go_wp2_with (fail)
          go_roundw
          case rel => exact ⟨k + 1, hlt, by go_num, NX.out nq, hx2⟩
          case measure => first | (simp [intOf]; done) | (simp [intOf]; omega)
        · have fin : Hid (decide (a = b) = false) := decide_eq_false (NE.out e)
          have xy : (x == y) = false := by simpa using e
          go_wp2_with (fail)
          go_quiet (fail)
          go_wp2_with (fail)
          go_ret
          exact ⟨by rw [fin.out]; rfl, NX.out nq⟩
      · have fin : Hid (decide (a = b) = true) := by
          have h1 := hx.out
          rw [List.take_of_length_le (by have := HN.out; omega), List.take_of_length_le (by have := HM.out; omega)] at h1
          exact decide_eq_true h1
        have hkm : ¬ (k : Int) < (n : Int) := by omega
        go_wp2_with (fail)
        go_ret
        exact ⟨by rw [fin.out]; rfl, hw.out⟩
  · have fin : Hid (decide (a = b) = false) := decide_eq_false (fun e => hnm (by rw [HN.out, HM.out, e]))
    have d1 : ((n : Int) == (m : Int)) = false := by simp; omega
    have d2 : ¬ (n : Int) = (m : Int) := by omega
    go_wp2_with (fail)
    go_ret
    exact ⟨by rw [fin.out]; rfl, Below.refl _ _⟩
end Go.Proofs.YtabeljpnmmfpgaaDoor
