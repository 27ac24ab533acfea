/-
  What flow computes, in plain Lean: a word, all words.
-/
import Derived.Test.YtabeljpnmmfpgaaDoorFlLeads
namespace Go.Proofs.YtabeljpnmmfpgaaDoor
open Go.RowKit Go.MapKept
set_option linter.unusedVariables false
set_option linter.unusedSimpArgs false

/-! ### lists that rise -/
def ins (x : Int) : List Int → List Int
  | [] => [x]
  | y :: l => if x < y then x :: y :: l else if x = y then y :: l else y :: ins x l
theorem mem_ins (x n : Int) : ∀ l, n ∈ ins x l ↔ n = x ∨ n ∈ l
  | [] => by simp [ins]
  | y :: l => by
    unfold ins
    split
    · simp
    · split
      · rename_i h1 h2
        subst h2
        simp
      · rw [List.mem_cons, mem_ins x n l, List.mem_cons]
        constructor
        · rintro (h | h | h)
          · exact .inr (.inl h)
          · exact .inl h
          · exact .inr (.inr h)
        · rintro (h | h | h)
          · exact .inr (.inl h)
          · exact .inl h
          · exact .inr (.inr h)
theorem ins_sorted (x : Int) : ∀ l : List Int, l.Pairwise (fun a b => a < b) → (ins x l).Pairwise (fun a b => a < b)
  | [], _ => by simp [ins]
  | y :: l, h => by
    obtain ⟨h1, h2⟩ := List.pairwise_cons.1 h
    unfold ins
    split
    · rename_i hx
      refine List.pairwise_cons.2 ⟨fun n hn => ?_, h⟩
      rcases List.mem_cons.1 hn with rfl | hn
      · exact hx
      · have := h1 n hn; omega
    · split
      · exact h
      · refine List.pairwise_cons.2 ⟨fun n hn => ?_, ins_sorted x l h2⟩
        rcases (mem_ins x n l).1 hn with rfl | hn
        · omega
        · exact h1 n hn

def insI (x : FI) : List FI → List FI
  | [] => [x]
  | y :: l => if x.at_ < y.at_ then x :: y :: l else if x.at_ = y.at_ then x :: l else y :: insI x l
theorem mem_insI {x z : FI} : ∀ {l : List FI}, z ∈ insI x l → z = x ∨ z ∈ l
  | [], h => by simpa [insI] using h
  | y :: l, h => by
    unfold insI at h
    split at h
    · simpa using h
    · split at h
      · rcases List.mem_cons.1 h with h | h
        · exact .inl h
        · exact .inr (List.mem_cons_of_mem _ h)
      · rcases List.mem_cons.1 h with h | h
        · exact .inr (h ▸ List.mem_cons_self)
        · rcases mem_insI h with h | h
          · exact .inl h
          · exact .inr (List.mem_cons_of_mem _ h)
theorem insI_sorted (x : FI) : ∀ l : List FI, l.Pairwise (fun a b => a.at_ < b.at_) → (insI x l).Pairwise (fun a b => a.at_ < b.at_)
  | [], _ => by simp [insI]
  | y :: l, h => by
    obtain ⟨h1, h2⟩ := List.pairwise_cons.1 h
    unfold insI
    split
    · rename_i hx
      refine List.pairwise_cons.2 ⟨fun n hn => ?_, h⟩
      rcases List.mem_cons.1 hn with rfl | hn
      · exact hx
      · have := h1 n hn; omega
    · split
      · rename_i hx
        exact List.pairwise_cons.2 ⟨fun n hn => by rw [hx]; exact h1 n hn, h2⟩
      · refine List.pairwise_cons.2 ⟨fun n hn => ?_, insI_sorted x l h2⟩
        rcases mem_insI hn with rfl | hn
        · omega
        · exact h1 n hn

/-- The map of the instructions found. -/
def fFn (f : List FI) : Int → Option Value := fun n => (f.find? (fun x => x.at_ == n)).map FI.val
theorem fFn_nil : fFn [] = fun _ => none := rfl
theorem fFn_ins (x : FI) (n : Int) : ∀ f : List FI, fFn (insI x f) n = if n = x.at_ then some x.val else fFn f n
  | [] => by
    by_cases e : n = x.at_
    · subst e; simp [fFn, insI]
    · have t1 : (x.at_ == n) = false := by simp; exact fun h => e h.symm
      rw [if_neg e]; simp [fFn, insI, t1]
  | y :: l => by
    have ih := fFn_ins x n l
    unfold fFn at ih ⊢
    unfold insI
    split
    · by_cases e : n = x.at_
      · subst e; simp
      · rw [if_neg e, List.find?_cons]
        have : (x.at_ == n) = false := by simp; exact fun h => e h.symm
        rw [this]
    · split
      · rename_i h1 h2
        by_cases e : n = x.at_
        · subst e; simp
        · rw [if_neg e, List.find?_cons, List.find?_cons]
          have t1 : (x.at_ == n) = false := by simp; exact fun h => e h.symm
          have t2 : (y.at_ == n) = false := by rw [← h2]; exact t1
          rw [t1, t2]
      · rename_i h1 h2
        rw [List.find?_cons, List.find?_cons]
        by_cases e : y.at_ = n
        · have t2 : (y.at_ == n) = true := by simp [e]
          rw [t2, if_neg (by omega)]
        · have t2 : (y.at_ == n) = false := by simp [e]
          rw [t2]
          exact ih

/-! ### a word -/
/-- An address that is led to. -/
def push (f : List FI) (o : List Int) (l : Int) : List Int := if (fFn f l).isSome then o else ins l o
/-- Along all ways: what is still to be looked at, what has been found, what is called. -/
def wl (code T : List Int) : Nat → List Int → List FI → List Int → Option (Except (Int × Int) (List FI × List Int))
  | 0, _, _, _ => none
  | _ + 1, [], f, c => some (.ok (f, c))
  | k + 1, a :: o, f, c =>
    if a ∈ T then some (.error (160, a))
    else if (lookAt code a).2 ≠ 0 then some (.error ((lookAt code a).2, a))
    else wl code T k ((leadsOf (lookAt code a).1).foldl (push (insI (lookAt code a).1 f)) o) (insI (lookAt code a).1 f) (if (lookAt code a).1.op = 1 then ins (lookAt code a).1.word c else c)
/-- The first instruction that lies in another's operand. -/
def clash (f : List FI) : Option Int := (f.find? (fun x => f.any (fun y => hasOperand y.op && (IntKind.u16.wrap (y.at_ + 2) == x.at_)))).map FI.at_
structure FW where
  at_ : Int
  instrs : List FI
  calls : List Int
def endOf (w : Int) : Except (Int × Int) (List FI × List Int) → Except (Int × Int) FW
  | .error e => .error e
  | .ok (f, c) => match clash f with
    | some a => .error (160, a)
    | none => .ok ⟨w, f, c⟩
def wordOf (k : Nat) (code T : List Int) (w : Int) : Option (Except (Int × Int) FW) :=
  if cellOf code w = some 1 then (wl code T k [IntKind.u16.wrap (w + 2)] [] []).map (endOf w) else some (.error (163, w))

/-! ### what holds of what is found -/
theorem mem_leads {x : FI} {l : Int} (h : l ∈ leadsOf x) : l = x.operand ∨ l = x.next := by
  unfold leadsOf at h
  split at h
  · exact .inl (by simpa using h)
  · split at h
    · rcases List.mem_cons.1 h with h | h
      · exact .inr h
      · exact .inl (by simpa using h)
    · split at h
      · cases h
      · exact .inr (by simpa using h)
/-- All numbers of an instruction are in their ranges. -/
structure FI.Ok (x : FI) : Prop where
  at_ : 0 ≤ x.at_ ∧ x.at_ < 65536
  op : 1 ≤ x.op ∧ x.op < 64
  word : 0 ≤ x.word ∧ x.word < 65536
  operand : 0 ≤ x.operand ∧ x.operand < 65536
  next : 0 ≤ x.next ∧ x.next < 65536
theorem FI.Ok.leads {x : FI} (h : x.Ok) {l : Int} (hl : l ∈ leadsOf x) : 0 ≤ l ∧ l < 65536 := by
  rcases mem_leads hl with rfl | rfl
  · exact h.operand
  · exact h.next

theorem lookAt_ok {code : List Int} (hb : ∀ j, 0 ≤ code.getD j 0 ∧ code.getD j 0 < 256) {a : Int} (ha : 0 ≤ a ∧ a < 65536) (h : (lookAt code a).2 = 0) : (lookAt code a).1.at_ = a ∧ (lookAt code a).1.Ok := by
  unfold lookAt at h ⊢
  have z : (0 : Int) ≤ 0 ∧ (0 : Int) < 65536 := by decide
  cases hc : cellOf code a with
  | none => rw [hc] at h; exact absurd (show (162 : Int) = 0 from h) (by decide)
  | some t =>
    rw [hc] at h
    dsimp only at h ⊢
    have bt := cellOf_range hb hc
    cases hd : cellOf code t with
    | none => rw [hd] at h; exact absurd (show (161 : Int) = 0 from h) (by decide)
    | some o =>
      rw [hd] at h
      dsimp only at h ⊢
      by_cases hr : o < 1 ∨ 64 ≤ o
      · rw [if_pos hr] at h; exact absurd (show (161 : Int) = 0 from h) (by decide)
      · rw [if_neg hr] at h ⊢
        have ho : 1 ≤ o ∧ o < 64 := by omega
        by_cases n1 : o = 1
        · rw [if_pos n1]; exact ⟨rfl, ha, (by decide : (1 : Int) ≤ 1 ∧ (1 : Int) < 64), bt, z, wrap16_range _⟩
        · rw [if_neg n1] at h ⊢
          by_cases n2 : o = 2
          · rw [if_pos n2] at h ⊢
            cases hv : cellOf code (IntKind.u16.wrap (t + 2)) with
            | none => rw [hv] at h; exact absurd (show (162 : Int) = 0 from h) (by decide)
            | some v => exact ⟨rfl, ha, (by decide : (1 : Int) ≤ 2 ∧ (2 : Int) < 64), bt, cellOf_range hb hv, wrap16_range _⟩
          · rw [if_neg n2] at h ⊢
            by_cases hp : hasOperand o = true
            · rw [if_pos hp] at h ⊢
              cases hv : cellOf code (IntKind.u16.wrap (a + 2)) with
              | none => rw [hv] at h; exact absurd (show (162 : Int) = 0 from h) (by decide)
              | some v =>
                rw [hv] at h
                dsimp only at h ⊢
                by_cases hu : o ≠ 3 ∧ cellOf code v = none
                · rw [if_pos hu] at h; exact absurd (show (160 : Int) = 0 from h) (by decide)
                · rw [if_neg hu]
                  exact ⟨rfl, ha, ho, z, cellOf_range hb hv, wrap16_range _⟩
            · rw [if_neg hp]
              exact ⟨rfl, ha, ho, z, z, wrap16_range _⟩
end Go.Proofs.YtabeljpnmmfpgaaDoor
