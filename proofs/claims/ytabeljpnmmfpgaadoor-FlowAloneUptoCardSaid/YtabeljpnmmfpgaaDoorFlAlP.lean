/-
  The plain law of FlowAlone: words depend on the cells that they lead to.
-/
import Derived.Test.YtabeljpnmmfpgaaDoorFlWaP
namespace Go.Proofs.YtabeljpnmmfpgaaDoor
open Go.RowKit Go.MapKept Go.Maps Go.Sort
set_option linter.unusedVariables false
set_option linter.unusedSimpArgs false

theorem mem_insI_up {x z : FI} {l : List FI} (ho : ∀ y ∈ l, y.at_ ≠ x.at_) (h : z = x ∨ z ∈ l) : z ∈ insI x l := (insI_mem x z l ho).2 h
/-- What has been found stays found. -/
theorem wl_mono {code T : List Int} (hb : ∀ j, 0 ≤ code.getD j 0 ∧ code.getD j 0 < 256) : ∀ (k : Nat) (o : List Int) (f : List FI) (c : List Int) (f' : List FI) (c' : List Int), WInv code o f c → wl code T k o f c = some (.ok (f', c')) → ∀ y ∈ f, y ∈ f'
  | 0, _, _, _, _, _, _, h => by cases h
  | k + 1, [], f, c, f', c', hi, h => by
    unfold wl at h
    cases h
    exact fun y hy => hy
  | k + 1, a :: o, f, c, f', c', hi, h => by
    unfold wl at h
    split at h
    · cases h
    · split at h
      · cases h
      · rename_i he
        have he : (lookAt code a).2 = 0 := by simpa using he
        obtain ⟨e1, e2⟩ := lookAt_ok hb (hi.orange a List.mem_cons_self) he
        exact fun y hy => wl_mono hb k _ _ _ f' c' (hi.next hb he).1 h y (mem_insI_up (fun z hz => by rw [e1]; exact hi.off a List.mem_cons_self z hz) (.inr hy))
theorem wl_same {code code' T : List Int} (hb : ∀ j, 0 ≤ code.getD j 0 ∧ code.getD j 0 < 256) : ∀ (k : Nat) (o : List Int) (f : List FI) (c : List Int) (f' : List FI) (c' : List Int), WInv code o f c → wl code T k o f c = some (.ok (f', c')) → (∀ y ∈ f', lookAt code' y.at_ = lookAt code y.at_) → wl code' T k o f c = some (.ok (f', c'))
  | 0, _, _, _, _, _, _, h, _ => by cases h
  | k + 1, [], f, c, f', c', hi, h, _ => by
    unfold wl at h ⊢
    exact h
  | k + 1, a :: o, f, c, f', c', hi, h, hs => by
    unfold wl at h ⊢
    split at h
    · cases h
    · rename_i hT
      split at h
      · cases h
      · rename_i he
        have he : (lookAt code a).2 = 0 := by simpa using he
        obtain ⟨e1, e2⟩ := lookAt_ok hb (hi.orange a List.mem_cons_self) he
        have hx : (lookAt code a).1 ∈ f' := wl_mono hb k _ _ _ f' c' (hi.next hb he).1 h _ (mem_insI_up (fun z hz => by rw [e1]; exact hi.off a List.mem_cons_self z hz) (.inl rfl))
        have hl : lookAt code' a = lookAt code a := by
          have := hs _ hx
          rw [e1] at this
          exact this
        rw [hl, if_neg hT, if_neg (by simpa using he)]
        exact wl_same hb k _ _ _ f' c' (hi.next hb he).1 h hs
theorem wordOf_same {code code' T : List Int} (hb : ∀ j, 0 ≤ code.getD j 0 ∧ code.getD j 0 < 256) {kw : Nat} {a : Int} {x : FW} (h : wordOf kw code T a = some (.ok x)) (ha : cellOf code' a = cellOf code a) (hs : ∀ y ∈ x.instrs, lookAt code' y.at_ = lookAt code y.at_) : wordOf kw code' T a = some (.ok x) := by
  unfold wordOf at h ⊢
  rw [ha]
  split at h
  · rename_i h1
    rw [if_pos h1]
    cases hw : wl code T kw [IntKind.u16.wrap (a + 2)] [] [] with
    | none => rw [hw] at h; cases h
    | some r =>
      rw [hw] at h
      cases r with
      | error e => cases h
      | ok fc =>
        obtain ⟨f, c⟩ := fc
        have hf : x.instrs = f := by
          simp only [Option.map_some, endOf] at h
          cases hcl : clash f with
          | some b => rw [hcl] at h; cases h
          | none => rw [hcl] at h; cases h; rfl
        rw [wl_same hb kw _ _ _ f c (WInv.start _ (wrap16_range _)) hw (fun y hy => hs y (by rw [hf]; exact hy))]
        exact h
  · cases h
theorem wsl_mono {code : List Int} {kw : Nat} : ∀ (k : Nat) (o seen T : List Int) (acc ws : List FW), wsl code kw k o seen T acc = some (.ok ws) → ∀ x ∈ acc, x ∈ ws
  | 0, _, _, _, _, _, h => by cases h
  | k + 1, [], seen, T, acc, ws, h => by
    unfold wsl at h
    cases h
    exact fun x hx => hx
  | k + 1, a :: o, seen, T, acc, ws, h => by
    unfold wsl at h
    cases hw : wordOf kw code T a with
    | none => rw [hw] at h; cases h
    | some r =>
      rw [hw] at h
      cases r with
      | error e => cases h
      | ok x => exact fun z hz => wsl_mono k _ _ _ _ ws h z (List.mem_append_left _ hz)
theorem wsl_same {code code' : List Int} (hb : ∀ j, 0 ≤ code.getD j 0 ∧ code.getD j 0 < 256) {kw : Nat} : ∀ (k : Nat) (o seen T : List Int) (acc ws : List FW), wsl code kw k o seen T acc = some (.ok ws) → (∀ x ∈ ws, cellOf code' x.at_ = cellOf code x.at_ ∧ ∀ y ∈ x.instrs, lookAt code' y.at_ = lookAt code y.at_) → wsl code' kw k o seen T acc = some (.ok ws)
  | 0, _, _, _, _, _, h, _ => by cases h
  | k + 1, [], seen, T, acc, ws, h, _ => by
    unfold wsl at h ⊢
    exact h
  | k + 1, a :: o, seen, T, acc, ws, h, hs => by
    unfold wsl at h ⊢
    cases hw : wordOf kw code T a with
    | none => rw [hw] at h; cases h
    | some r =>
      rw [hw] at h
      cases r with
      | error e => cases h
      | ok x =>
        have hx : x ∈ ws := wsl_mono k _ _ _ _ ws h x (List.mem_append_right _ List.mem_cons_self)
        have e := (wordOf_ok hb hw).2
        obtain ⟨h1, h2⟩ := hs x hx
        rw [e] at h1
        rw [wordOf_same hb hw h1 h2]
        exact wsl_same hb k _ _ _ _ ws h hs
theorem wordsFull_same {kw k : Nat} {code code' : List Int} {en : Int} {E : List (Int × Int × Int)} {B : List (Int × Nat)} {ws : List FW} (hb : ∀ j, 0 ≤ code.getD j 0 ∧ code.getD j 0 < 256) (hl : code'.length = code.length) (h : wordsFull kw k code en E B = some (.ok ws)) (hs : ∀ x ∈ ws, cellOf code' x.at_ = cellOf code x.at_ ∧ ∀ y ∈ x.instrs, lookAt code' y.at_ = lookAt code y.at_) : wordsFull kw k code' en E B = some (.ok ws) := by
  unfold wordsFull at h ⊢
  rw [hl]
  split at h
  · rename_i hok
    rw [if_pos hok]
    unfold wordsOf at h ⊢
    cases hw : wsl code kw k [en] [] [] [] with
    | none => rw [hw] at h; cases h
    | some R =>
      rw [hw] at h
      cases R with
      | error e =>
        have h := Option.some.inj h
        have h : Except.error e = (Except.ok ws : Except (Int × Int) (List FW)) := h
        cases h
      | ok acc =>
        have h' := Option.some.inj h
        have h' : Except.ok (sortFW acc) = (Except.ok ws : Except (Int × Int) (List FW)) := h'
        injection h' with h'
        rw [wsl_same hb k _ _ _ _ acc hw (fun x hx => hs x (by rw [← h']; exact (sortFW_perm acc).mem_iff.2 hx))]
        exact h
  · cases h
/-- Two codes that agree at a cell. -/
def AgC (code code' : List Int) (a : Int) : Prop := code'.getD a.toNat 0 = code.getD a.toNat 0 ∧ code'.getD (a.toNat + 1) 0 = code.getD (a.toNat + 1) 0
theorem cell_same {code code' : List Int} {a : Int} (hl : code'.length = code.length) (h : AgC code code' a) : cellOf code' a = cellOf code a := by
  unfold cellOf
  rw [hl, h.1, h.2]
theorem cell_none {code code' : List Int} {a : Int} (hl : code'.length = code.length) : cellOf code' a = none ↔ cellOf code a = none := by
  unfold cellOf
  rw [hl]
  split <;> simp
theorem look_same {code code' : List Int} {y : FI} (hl : code'.length = code.length) (hy : lookAt code y.at_ = (y, 0)) (h0 : AgC code code' y.at_) (h1 : ∀ t, cellOf code y.at_ = some t → AgC code code' t ∧ (y.op = 2 → AgC code code' (IntKind.u16.wrap (t + 2)))) (h2 : y.next = IntKind.u16.wrap (y.at_ + 4) → AgC code code' (IntKind.u16.wrap (y.at_ + 2))) : lookAt code' y.at_ = lookAt code y.at_ := by
  obtain ⟨t, L⟩ := looks_of hy rfl
  obtain ⟨g1, g2⟩ := h1 t L.cell
  have c0 : cellOf code' y.at_ = some t := (cell_same hl h0).trans L.cell
  have c1 : cellOf code' t = some y.op := (cell_same hl g1).trans L.op
  unfold lookAt
  rw [c0, L.cell]
  dsimp only
  rw [c1, L.op]
  dsimp only
  by_cases e1 : y.op < 1 ∨ 64 ≤ y.op
  · rw [if_pos e1, if_pos e1]
  rw [if_neg e1, if_neg e1]
  by_cases e2 : y.op = 1
  · rw [if_pos e2, if_pos e2]
  rw [if_neg e2, if_neg e2]
  by_cases e3 : y.op = 2
  · rw [if_pos e3, if_pos e3, cell_same hl (g2 e3)]
  rw [if_neg e3, if_neg e3]
  by_cases e4 : hasOperand y.op = true
  · rw [if_pos e4, if_pos e4]
    obtain ⟨l1, l2, _⟩ := L.long e4
    rw [cell_same hl (h2 l2), l1]
    dsimp only
    have e5 : (y.op ≠ 3 ∧ cellOf code' y.operand = none) ↔ (y.op ≠ 3 ∧ cellOf code y.operand = none) := and_congr_right (fun _ => cell_none hl)
    by_cases e6 : y.op ≠ 3 ∧ cellOf code y.operand = none
    · rw [if_pos (e5.2 e6), if_pos e6]
    · rw [if_neg (fun h => e6 (e5.1 h)), if_neg e6]
  · rw [if_neg e4, if_neg e4]
end Go.Proofs.YtabeljpnmmfpgaaDoor
