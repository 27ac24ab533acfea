/-
  What a write keeps: the plain law behind MemKeeps, of the record alone.
-/
import Derived.Test.YtabeljpnmmfpgaaMemMeth
import Derived.Test.YtabeljpnmmfpgaaMemNew
namespace Go.Proofs.Ytabeljpnmmfpgaa
open Go.RowKit Go.MapKept
set_option linter.unusedVariables false
set_option linter.unusedSimpArgs false

def isPlain (a : Int) : Prop := 16384 ≤ a ∧ a < 52224
instance (a : Int) : Decidable (isPlain a) := by unfold isPlain; exact inferInstance

theorem Mm.store_plain (M : Mm) {a : Int} (x : Int) (h : isPlain a) : (M.store a x).chosen = M.chosen ∧ (M.store a x).pad = M.pad ∧ (M.store a x).time = M.time ∧ (M.store a x).tones = M.tones ∧ (∀ n, (M.store a x).bank n = none ↔ M.bank n = none) := by
  obtain ⟨h1, h2⟩ := h
  unfold Mm.store
  rw [if_neg (by omega)]
  by_cases c2 : a < 32768
  · rw [if_pos c2]
    cases hb : M.bank M.chosen with
    | none => exact ⟨rfl, rfl, rfl, rfl, fun n => Iff.rfl⟩
    | some g =>
      refine ⟨rfl, rfl, rfl, rfl, fun n => ?_⟩
      dsimp only
      by_cases e : n = M.chosen
      · subst e; rw [if_pos rfl, hb]; simp
      · rw [if_neg e]
  · rw [if_neg c2]
    by_cases c3 : a < 49152
    · rw [if_pos c3]; exact ⟨rfl, rfl, rfl, rfl, fun n => Iff.rfl⟩
    · rw [if_neg c3, if_pos h2]; exact ⟨rfl, rfl, rfl, rfl, fun n => Iff.rfl⟩

def keepStep (M : Mm) (o : Int) (i : Nat) : Mm := if isPlain o then M.store o (((i : Int) + 1) % 256) else M
def keepFold (M : Mm) (os : List Int) : Nat → Mm
  | 0 => M
  | k + 1 => keepStep (keepFold M os k) (os.getD k 0) k
theorem keepFold_same (M : Mm) (os : List Int) : ∀ k, (keepFold M os k).chosen = M.chosen ∧ (keepFold M os k).pad = M.pad ∧ (keepFold M os k).time = M.time ∧ (keepFold M os k).tones = M.tones ∧ (∀ n, (keepFold M os k).bank n = none ↔ M.bank n = none)
  | 0 => ⟨rfl, rfl, rfl, rfl, fun _ => Iff.rfl⟩
  | k + 1 => by
    obtain ⟨a1, a2, a3, a4, a5⟩ := keepFold_same M os k
    unfold keepFold keepStep
    split
    · rename_i h
      obtain ⟨b1, b2, b3, b4, b5⟩ := Mm.store_plain (keepFold M os k) (((k : Int) + 1) % 256) h
      exact ⟨b1.trans a1, b2.trans a2, b3.trans a3, b4.trans a4, fun n => (b5 n).trans (a5 n)⟩
    · exact ⟨a1, a2, a3, a4, a5⟩

/-- What is written is read there next. -/
theorem load_store_same (M : Mm) (a x : Int) (h : isPlain a) (hb : a < 32768 → M.bank M.chosen ≠ none) : (M.store a x).load a = x := by
  obtain ⟨h1, h2⟩ := h
  unfold Mm.store
  rw [if_neg (by omega)]
  by_cases c2 : a < 32768
  · rw [if_pos c2]
    cases hbk : M.bank M.chosen with
    | none => exact absurd hbk (hb c2)
    | some g =>
      unfold Mm.load
      rw [if_neg (by omega), if_pos c2]
      dsimp only
      rw [if_pos rfl]
      dsimp only
      rw [if_pos rfl]
  · rw [if_neg c2]
    by_cases c3 : a < 49152
    · rw [if_pos c3]
      unfold Mm.load
      rw [if_neg (by omega), if_neg c2, if_pos c3]
      dsimp only
      rw [if_pos rfl]
    · rw [if_neg c3, if_pos h2]
      unfold Mm.load
      rw [if_neg (by omega), if_neg c2, if_neg c3, if_pos h2]
      dsimp only
      rw [if_pos rfl]

theorem Mm.load_of (M : Mm) (o : Int) : M.load o =
    (if o < 16384 then 0 else if o < 32768 then (match M.bank M.chosen with | none => 0 | some g => g (o - 16384).toNat) else if o < 49152 then M.ram (o - 32768).toNat else if o < 52224 then M.scr (o - 49152).toNat
     else if o = 65280 then M.chosen else if o = 65282 then M.pad else if o = 65284 then M.pitch % 256 else if o = 65285 then M.pitch / 256 else if o = 65286 then M.volume else if o = 65288 then M.time % 256 else if o = 65289 then M.time / 256 else 0) := rfl

/-- No other reading is another. -/
theorem load_store_other (M : Mm) (a x o : Int) (h0 : 0 ≤ o) (h1 : ¬ o = a) (h2 : ¬ (a = 65280 ∧ 16384 ≤ o ∧ o < 32768)) (h3 : o < 65280) : (M.store a x).load o = M.load o := by
  have hi : o < 52224 ∨ (M.store a x).load o = 0 ∧ M.load o = 0 := by
    by_cases c : o < 52224
    · exact .inl c
    · refine .inr ⟨?_, ?_⟩ <;>
      · rw [Mm.load_of, if_neg (by omega), if_neg (by omega), if_neg (by omega), if_neg (by omega), if_neg (by omega), if_neg (by omega), if_neg (by omega), if_neg (by omega), if_neg (by omega), if_neg (by omega), if_neg (by omega)]
  rcases hi with hi | ⟨e1, e2⟩
  rotate_left
  · rw [e1, e2]
  have key : ∀ M' : Mm, (o < 32768 → 16384 ≤ o → (match M'.bank M'.chosen with | none => 0 | some g => g (o - 16384).toNat) = (match M.bank M.chosen with | none => 0 | some g => g (o - 16384).toNat)) →
      (32768 ≤ o → o < 49152 → M'.ram (o - 32768).toNat = M.ram (o - 32768).toNat) → (49152 ≤ o → M'.scr (o - 49152).toNat = M.scr (o - 49152).toNat) → M'.load o = M.load o := by
    intro M' k1 k2 k3
    rw [Mm.load_of, Mm.load_of]
    by_cases c1 : o < 16384
    · rw [if_pos c1, if_pos c1]
    · rw [if_neg c1, if_neg c1]
      by_cases c2 : o < 32768
      · rw [if_pos c2, if_pos c2]; exact k1 c2 (by omega)
      · rw [if_neg c2, if_neg c2]
        by_cases c3 : o < 49152
        · rw [if_pos c3, if_pos c3]; exact k2 (by omega) c3
        · rw [if_neg c3, if_neg c3, if_pos hi, if_pos hi]; exact k3 (by omega)
  unfold Mm.store
  by_cases c1 : a < 16384
  · rw [if_pos c1]
  rw [if_neg c1]
  by_cases c2 : a < 32768
  · rw [if_pos c2]
    cases hbk : M.bank M.chosen with
    | none => rfl
    | some g =>
      refine key _ (fun k1 k2 => ?_) (fun _ _ => rfl) (fun _ => rfl)
      dsimp only
      rw [if_pos rfl, hbk]
      dsimp only
      rw [if_neg (by omega)]
  rw [if_neg c2]
  by_cases c3 : a < 49152
  · rw [if_pos c3]
    refine key _ (fun _ _ => rfl) (fun k1 k2 => ?_) (fun _ => rfl)
    dsimp only
    rw [if_neg (by omega)]
  rw [if_neg c3]
  by_cases c4 : a < 52224
  · rw [if_pos c4]
    refine key _ (fun _ _ => rfl) (fun _ _ => rfl) (fun k1 => ?_)
    dsimp only
    rw [if_neg (by omega)]
  rw [if_neg c4]
  by_cases e1 : a = 65280
  · rw [if_pos e1]
    exact key _ (fun k1 k2 => absurd ⟨e1, k2, k1⟩ h2) (fun _ _ => rfl) (fun _ => rfl)
  rw [if_neg e1]
  by_cases e2 : a = 65284
  · rw [if_pos e2]; exact key _ (fun _ _ => rfl) (fun _ _ => rfl) (fun _ => rfl)
  rw [if_neg e2]
  by_cases e3 : a = 65285
  · rw [if_pos e3]; exact key _ (fun _ _ => rfl) (fun _ _ => rfl) (fun _ => rfl)
  rw [if_neg e3]
  by_cases e4 : a = 65286
  · rw [if_pos e4]; exact key _ (fun _ _ => rfl) (fun _ _ => rfl) (fun _ => rfl)
  rw [if_neg e4]

theorem Mm.store_pad (M : Mm) (a x : Int) : (M.store a x).pad = M.pad ∧ (M.store a x).time = M.time := by
  unfold Mm.store
  repeat' split
  all_goals exact ⟨rfl, rfl⟩
theorem Mm.load_pad (M : Mm) : M.load 65282 = M.pad := rfl
theorem Mm.load_time (M : Mm) : M.load 65288 = M.time % 256 := rfl
theorem Mm.load_low (M : Mm) {a : Int} (h : a < 16384) : M.load a = 0 := by unfold Mm.load; rw [if_pos h]

/-- The memory of MemKeeps ahead of the write, and what is asked of it. -/
def keepStart (l : List (Int × List Int)) : Mm := Mm.begin (if l = [] then newMem l l.length else (newMem l l.length).store 65280 ((l.getD 0 (0, [])).1 % 65536 % 256)) 77

theorem keepStart_facts {l : List (Int × List Int)} (h : banksOk l) : (keepStart l).pad = 77 ∧ (keepStart l).time = 1 ∧ (keepStart l).tones = [] ∧ (l ≠ [] → (keepStart l).bank (keepStart l).chosen ≠ none) := by
  refine ⟨rfl, ?_, rfl, ?_⟩
  · unfold keepStart Mm.begin
    dsimp only
    split
    · rfl
    · rw [(Mm.store_pad _ _ _).2]; rfl
  · intro hl
    have h0 : 0 < l.length := List.length_pos_iff.2 hl
    have hok := h 0 h0
    have hge := lastAt_ge (l := l) (k := 0) (fun i hi => by omega)
    obtain ⟨o1, o2, _⟩ := hok
    have e : (l.getD 0 (0, [])).1 % 65536 % 256 % 16 = (l.getD 0 (0, [])).1 := by omega
    unfold keepStart Mm.begin
    rw [if_neg hl]
    have hs : (newMem l l.length).store 65280 ((l.getD 0 (0, [])).1 % 65536 % 256) = { newMem l l.length with chosen := (l.getD 0 (0, [])).1 } := by
      unfold Mm.store
      rw [if_neg (by omega), if_neg (by omega), if_neg (by omega), if_neg (by omega), if_pos rfl, e]
    rw [hs]
    dsimp only
    show bankOf l l.length (l.getD 0 (0, [])).1 ≠ none
    have : ∀ k, 0 < k → bankOf l k (l.getD 0 (0, [])).1 ≠ none := by
      intro k hk
      induction k with
      | zero => omega
      | succ k ih =>
        unfold bankOf
        split
        · simp
        · rename_i hne
          by_cases hk0 : k = 0
          · subst hk0; exact absurd rfl hne
          · exact ih (by omega)
    exact this _ h0
end Go.Proofs.Ytabeljpnmmfpgaa
