/-
  flow's Order, 1: is one of these addresses not told.
-/
import Derived.Test.YtabeljpnmmfpgaaDoorFlFix
namespace Go.Proofs.YtabeljpnmmfpgaaDoor
open Go.RowKit Go.MapKept Go.Maps Go.Sort
set_option linter.unusedVariables false
set_option linter.unusedSimpArgs false

theorem notTold_any (w : World) (bt bm : Nat) (T : List Int) (x : Int) (hc : w.cell? ⟨bt, 0, none⟩ = some (.map (some bm))) (h : SetAt w bm T) :
    Calls Tryd.prog 44 #[.int .u16 x, .pointer (some ⟨bt, 0, none⟩)] w fun e w' => e = .returned (.bool (decide (x ∉ T))) ∧ w' = w := by
  by_cases hx : x ∈ T
  · have hl := SetAt.in_ h hx
    have e : decide (x ∉ T) = false := by simp [hx]
    rw [e]
    clear e hx h
    go_enter Tryd.func44, Tryd.ntmps44
    go_wp2
    go_ret
    exact ⟨rfl, rfl⟩
  · have hl := SetAt.out_ h hx
    have e : decide (x ∉ T) = true := by simp [hx]
    rw [e]
    clear e hx h
    go_enter Tryd.func44, Tryd.ntmps44
    go_wp2
    go_ret
    exact ⟨rfl, rfl⟩

/-- A row of addresses that is read. -/
structure AtsIn (w : World) (A : Option Addr) (ss : List Int) : Prop where
  len : ss.length ≤ 1000000000000
  at_ : ∀ (j : Nat) (hj : j < ss.length), ∃ b off, A = some ⟨b, off, none⟩ ∧ w.cell? ⟨b, off + j, none⟩ = some (.int .u16 ss[j])
theorem AtsIn.below {w W : World} {A : Option Addr} {ss : List Int} (h : AtsIn w A ss) (hb : Below w.heap.size w W) : AtsIn W A ss :=
  ⟨h.len, fun j hj => by
    obtain ⟨b, off, e, h0⟩ := h.at_ j hj
    exact ⟨b, off, e, (hb.cell (World.block_lt_of_cell? w _ h0)).trans h0⟩⟩
theorem AtsIn.upd {w W : World} {A : Option Addr} {ss : List Int} {S : Nat → Prop} (h : AtsIn w A ss) (hu : Upd w W S) (hs : ∀ ad, A = some ad → ¬ S ad.block) : AtsIn W A ss :=
  ⟨h.len, fun j hj => by
    obtain ⟨b, off, e, h0⟩ := h.at_ j hj
    refine ⟨b, off, e, ?_⟩
    rw [← h0]
    unfold World.cell?
    rw [hu.block b (World.block_lt_of_cell? w _ h0) (hs _ e)]⟩
theorem RowU.atsIn {w : World} {base n c : Nat} {A : Option Addr} {ss : List Int} (h : RowU w base (.slice A n c) ss) (hl : ss.length ≤ 1000000000000) : AtsIn w A ss :=
  ⟨hl, fun j hj => by
    obtain ⟨g, e, hc⟩ := h.at_ hj
    exact ⟨g, 0, e, by rw [Nat.zero_add]; exact hc⟩⟩

/-- What IndexFunc answers: a place just where one is not told. -/
def IxPost (T ss : List Int) (e : Ending) : Prop := ∃ i : Int, e = .returned (.int .i64 i) ∧ (decide (0 ≤ i) = ss.any (fun x => decide (x ∉ T)))

set_option maxRecDepth 100000 in
set_option maxHeartbeats 4000000 in
theorem indexFunc_any (w : World) (A : Option Addr) (c bt bm : Nat) (T ss : List Int) (hs : AtsIn w A ss) (hc : w.cell? ⟨bt, 0, none⟩ = some (.map (some bm))) (h : SetAt w bm T) :
    Calls Tryd.prog 65 #[.slice A ss.length c, .func (.func 44) #[] #[.pointer (some ⟨bt, 0, none⟩)]] w fun e w' => IxPost T ss e ∧ w' = w := by
  have NT := Lib.hid (fun x => notTold_any w bt bm T x hc h)
  have HS := Lib.hid hs
  have sl := hs.len
  clear hs hc h
  go_enter Tryd.func65, Tryd.ntmps65
  go_wp2_with (fail)
  go_loopw [8] (fun p W => ∃ i : Nat, p = .int .i64 (i : Int) ∧ i ≤ ss.length ∧ W = w ∧ Hid (∀ x ∈ ss.take i, x ∈ T)) (fun p _ => ss.length - (intOf p).toNat)
  case atStart => exact ⟨0, rfl, Nat.zero_le _, by first | rfl | trivial, fun x hx => by simp at hx⟩
  case round =>
    obtain ⟨i, rfl, hi, rfl, hT⟩ := hrel
    by_cases hlt : i < ss.length
    · obtain ⟨b, off, rfl, c0⟩ := HS.out.at_ i hlt
      obtain ⟨x, hx⟩ : ∃ x, x = ss[i] := ⟨_, rfl⟩
      have tk := Lib.hid (List.take_append_getElem hlt)
      have mem := Lib.hid (List.getElem_mem hlt)
      rw [← hx] at c0 tk mem
      clear hx
      have di : decide ((i : Int) < (ss.length : Int)) = true := by simp; omega
      have bi : (i : Int) < (ss.length : Int) := by omega
      by_cases hxT : x ∈ T
      · have nx : Hid (∀ y ∈ ss.take (i + 1), y ∈ T) := fun y hy => by
          rw [← tk.out] at hy
          rcases List.mem_append.1 hy with hy | hy
          · exact hT.out y hy
          · rw [List.mem_singleton.1 hy]; exact hxT
        have ed : Hid (decide (x ∉ T) = false) := show _ = _ by simp [hxT]
        clear hxT
        go_wp2_with (go_at_call 44; refine (NT.out x).mono ?_; rintro e W ⟨rfl, rfl⟩; rw [ed.out])
        go_roundw
        case rel => exact ⟨i + 1, by go_num, by omega, by first | rfl | trivial, nx.out⟩
        case measure => first | (simp [intOf]; done) | (simp [intOf]; omega)
      · have ed : Hid (decide (x ∉ T) = true) := show _ = _ by simp [hxT]
        have fin : Hid (decide (0 ≤ (i : Int)) = ss.any (fun x => decide (x ∉ T))) := by
          show _ = _
          rw [List.any_eq_true.2 ⟨x, mem.out, by simp [hxT]⟩]; simp
        clear hxT
        go_wp2_with (go_at_call 44; refine (NT.out x).mono ?_; rintro e W ⟨rfl, rfl⟩; rw [ed.out])
        go_ret
        exact ⟨⟨i, rfl, fin.out⟩, rfl⟩
    · have di : decide ((i : Int) < (ss.length : Int)) = false := by simp; omega
      have fin : Hid (decide (0 ≤ (-1 : Int)) = ss.any (fun x => decide (x ∉ T))) := by
        show _ = _
        have : ss.any (fun x => decide (x ∉ T)) = false := by
          rw [List.any_eq_false]
          intro x hx
          have := hT.out x (by rw [List.take_of_length_le (by omega)]; exact hx)
          simp [this]
        rw [this]; rfl
      go_wp2_with (fail)
      go_ret
      exact ⟨⟨-1, rfl, fin.out⟩, rfl⟩

set_option maxRecDepth 100000 in
set_option maxHeartbeats 4000000 in
theorem contains_any (w : World) (A : Option Addr) (c bt bm : Nat) (T ss : List Int) (r : Bool) (hs : AtsIn w A ss) (hc : w.cell? ⟨bt, 0, none⟩ = some (.map (some bm))) (h : SetAt w bm T) (hr : ss.any (fun x => decide (x ∉ T)) = r) :
    Calls Tryd.prog 43 #[.slice A ss.length c, .func (.func 44) #[] #[.pointer (some ⟨bt, 0, none⟩)]] w fun e w' => e = .returned (.bool r) ∧ w' = w := by
  have IX := Lib.hid (indexFunc_any w A c bt bm T ss hs hc h)
  have HR := Lib.hid hr
  clear hs hc h hr
  cases r with
  | true =>
    go_enter Tryd.func43, Tryd.ntmps43
    go_wp2_with (go_at_call 65; refine IX.out.mono ?_; rintro e W ⟨⟨i, rfl, hi⟩, rfl⟩; rw [HR.out] at hi)
    go_ret
    exact ⟨rfl, rfl⟩
  | false =>
    go_enter Tryd.func43, Tryd.ntmps43
    go_wp2_with (go_at_call 65; refine IX.out.mono ?_; rintro e W ⟨⟨i, rfl, hi⟩, rfl⟩; rw [HR.out] at hi)
    go_ret
    exact ⟨rfl, rfl⟩
end Go.Proofs.YtabeljpnmmfpgaaDoor
