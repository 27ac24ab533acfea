/-
  Where an instruction leads on to.
  What flow computes, in plain Lean: a word, all words.
  What flow computes, in plain Lean: it ends, and how much it finds; the words.
-/
import Derived.Laws.OwnMore
import Derived.Test.YtabeljpnmmfpgaaDoorFlInstr
import Derived.Test.YtabeljpnmmfpgaaDoorFlSet
namespace Go.Proofs.YtabeljpnmmfpgaaDoor
open Go.RowKit Go.MapKept
set_option linter.unusedVariables false
set_option linter.unusedSimpArgs false

def leadsOf (x : FI) : List Int :=
  if x.op = 4 then [x.operand] else if x.op = 5 ∨ x.op = 7 then [x.next, x.operand] else if x.op = 8 ∨ x.op = 11 then [] else [x.next]

theorem RowU.lit (w W : World) (h : w.heap.size ≤ W.heap.size) (x : Int) (l : List Int) (hl : l.length ≤ 10) : RowU (W.alloc (.cells ((x :: l).map (Value.int .u16)).toArray 23)) w.heap.size (.slice (some ⟨W.heap.size, 0, none⟩) (l.length + 1) (l.length + 1)) (x :: l) := by
  have := World.ownsRow_lit (base := w.heap.size) (e := 23) (size := 1) W ((x :: l).map (Value.int .u16)).toArray (l.length + 1) h (by simp only [maxLen]; omega) (by simp)
  simpa [RowU] using this

theorem RowU.lit1 (w : World) (o : Obj) (x : Int) (l : List Int) (hl : l.length ≤ 10) : RowU ((w.alloc o).alloc (.cells ((x :: l).map (Value.int .u16)).toArray 23)) w.heap.size (.slice (some ⟨w.heap.size + 1, 0, none⟩) (l.length + 1) (l.length + 1)) (x :: l) := by
  have h := RowU.lit w (w.alloc o) (by simp) x l hl
  have e : (w.alloc o).heap.size = w.heap.size + 1 := by simp
  rw [e] at h
  exact h

set_option maxRecDepth 100000 in
set_option maxHeartbeats 4000000 in
theorem leads_any (w : World) (x : FI) : Calls Tryd.prog 53 #[x.val] w fun e w' => ∃ v, e = .returned v ∧ RowU w' w.heap.size v (leadsOf x) ∧ Below w.heap.size w w' := by
  obtain ⟨a, o, p, d, n⟩ := x
  unfold FI.val leadsOf
  dsimp only
  have hc : o = 4 ∨ o = 5 ∨ o = 7 ∨ o = 8 ∨ o = 11 ∨ (o ≠ 4 ∧ o ≠ 5 ∧ o ≠ 7 ∧ o ≠ 8 ∧ o ≠ 11) := by omega
  rcases hc with rfl | rfl | rfl | rfl | rfl | ⟨n4, n5, n7, n8, n11⟩
  · go_enter Tryd.func53, Tryd.ntmps53
    go_wp2
    go_ret
    exact ⟨_, rfl, RowU.lit1 w _ p [] (by simp), b_alloc (b_alloc (Below.refl _ _) _) _⟩
  · go_enter Tryd.func53, Tryd.ntmps53
    go_wp2
    go_ret
    exact ⟨_, rfl, RowU.lit1 w _ n [p] (by simp), b_alloc (b_alloc (Below.refl _ _) _) _⟩
  · go_enter Tryd.func53, Tryd.ntmps53
    go_wp2
    go_ret
    exact ⟨_, rfl, RowU.lit1 w _ n [p] (by simp), b_alloc (b_alloc (Below.refl _ _) _) _⟩
  · go_enter Tryd.func53, Tryd.ntmps53
    go_wp2
    go_ret
    exact ⟨_, rfl, RowU.nil _ _, b_alloc (Below.refl _ _) _⟩
  · go_enter Tryd.func53, Tryd.ntmps53
    go_wp2
    go_ret
    exact ⟨_, rfl, RowU.nil _ _, b_alloc (Below.refl _ _) _⟩
  · rw [if_neg n4, if_neg (by omega), if_neg (by omega)]
    have m4 : (o == 4) = false := by simp [n4]
    have m5 : (o == 5) = false := by simp [n5]
    have m7 : (o == 7) = false := by simp [n7]
    have m8 : (o == 8) = false := by simp [n8]
    have m11 : (o == 11) = false := by simp [n11]
    clear n4 n5 n7 n8 n11
    go_enter Tryd.func53, Tryd.ntmps53
    go_wp2
    go_ret
    exact ⟨_, rfl, RowU.lit1 w _ n [] (by simp), b_alloc (b_alloc (Below.refl _ _) _) _⟩
end Go.Proofs.YtabeljpnmmfpgaaDoor

namespace Go.Proofs.YtabeljpnmmfpgaaDoor
open Go.RowKit Go.MapKept
set_option linter.unusedVariables false
set_option linter.unusedSimpArgs false

/-! ### lists that rise -/
def ins (x : Int) : List Int → List Int
  | [] => [x]
  | y :: l => if x < y then x :: y :: l else if x = y then y :: l else y :: ins x l
theorem mem_ins (x n : Int) : ∀ l, n ∈ ins x l ↔ n = x ∨ n ∈ l
  | [] => by simp [ins]
  | y :: l => by
    unfold ins
    split
    · simp
    · split
      · rename_i h1 h2
        subst h2
        simp
      · rw [List.mem_cons, mem_ins x n l, List.mem_cons]
        constructor
        · rintro (h | h | h)
          · exact .inr (.inl h)
          · exact .inl h
          · exact .inr (.inr h)
        · rintro (h | h | h)
          · exact .inr (.inl h)
          · exact .inl h
          · exact .inr (.inr h)
theorem ins_sorted (x : Int) : ∀ l : List Int, l.Pairwise (fun a b => a < b) → (ins x l).Pairwise (fun a b => a < b)
  | [], _ => by simp [ins]
  | y :: l, h => by
    obtain ⟨h1, h2⟩ := List.pairwise_cons.1 h
    unfold ins
    split
    · rename_i hx
      refine List.pairwise_cons.2 ⟨fun n hn => ?_, h⟩
      rcases List.mem_cons.1 hn with rfl | hn
      · exact hx
      · have := h1 n hn; omega
    · split
      · exact h
      · refine List.pairwise_cons.2 ⟨fun n hn => ?_, ins_sorted x l h2⟩
        rcases (mem_ins x n l).1 hn with rfl | hn
        · omega
        · exact h1 n hn

def insI (x : FI) : List FI → List FI
  | [] => [x]
  | y :: l => if x.at_ < y.at_ then x :: y :: l else if x.at_ = y.at_ then x :: l else y :: insI x l
theorem mem_insI {x z : FI} : ∀ {l : List FI}, z ∈ insI x l → z = x ∨ z ∈ l
  | [], h => by simpa [insI] using h
  | y :: l, h => by
    unfold insI at h
    split at h
    · simpa using h
    · split at h
      · rcases List.mem_cons.1 h with h | h
        · exact .inl h
        · exact .inr (List.mem_cons_of_mem _ h)
      · rcases List.mem_cons.1 h with h | h
        · exact .inr (h ▸ List.mem_cons_self)
        · rcases mem_insI h with h | h
          · exact .inl h
          · exact .inr (List.mem_cons_of_mem _ h)
theorem insI_sorted (x : FI) : ∀ l : List FI, l.Pairwise (fun a b => a.at_ < b.at_) → (insI x l).Pairwise (fun a b => a.at_ < b.at_)
  | [], _ => by simp [insI]
  | y :: l, h => by
    obtain ⟨h1, h2⟩ := List.pairwise_cons.1 h
    unfold insI
    split
    · rename_i hx
      refine List.pairwise_cons.2 ⟨fun n hn => ?_, h⟩
      rcases List.mem_cons.1 hn with rfl | hn
      · exact hx
      · have := h1 n hn; omega
    · split
      · rename_i hx
        exact List.pairwise_cons.2 ⟨fun n hn => by rw [hx]; exact h1 n hn, h2⟩
      · refine List.pairwise_cons.2 ⟨fun n hn => ?_, insI_sorted x l h2⟩
        rcases mem_insI hn with rfl | hn
        · omega
        · exact h1 n hn

/-- The map of the instructions found. -/
def fFn (f : List FI) : Int → Option Value := fun n => (f.find? (fun x => x.at_ == n)).map FI.val
theorem fFn_nil : fFn [] = fun _ => none := rfl
theorem fFn_ins (x : FI) (n : Int) : ∀ f : List FI, fFn (insI x f) n = if n = x.at_ then some x.val else fFn f n
  | [] => by
    by_cases e : n = x.at_
    · subst e; simp [fFn, insI]
    · have t1 : (x.at_ == n) = false := by simp; exact fun h => e h.symm
      rw [if_neg e]; simp [fFn, insI, t1]
  | y :: l => by
    have ih := fFn_ins x n l
    unfold fFn at ih ⊢
    unfold insI
    split
    · by_cases e : n = x.at_
      · subst e; simp
      · rw [if_neg e, List.find?_cons]
        have : (x.at_ == n) = false := by simp; exact fun h => e h.symm
        rw [this]
    · split
      · rename_i h1 h2
        by_cases e : n = x.at_
        · subst e; simp
        · rw [if_neg e, List.find?_cons, List.find?_cons]
          have t1 : (x.at_ == n) = false := by simp; exact fun h => e h.symm
          have t2 : (y.at_ == n) = false := by rw [← h2]; exact t1
          rw [t1, t2]
      · rename_i h1 h2
        rw [List.find?_cons, List.find?_cons]
        by_cases e : y.at_ = n
        · have t2 : (y.at_ == n) = true := by simp [e]
          rw [t2, if_neg (by omega)]
        · have t2 : (y.at_ == n) = false := by simp [e]
          rw [t2]
          exact ih

/-! ### a word -/
/-- An address that is led to. -/
def push (f : List FI) (o : List Int) (l : Int) : List Int := if (fFn f l).isSome then o else ins l o
/-- Along all ways: what is still to be looked at, what has been found, what is called. -/
def wl (code T : List Int) : Nat → List Int → List FI → List Int → Option (Except (Int × Int) (List FI × List Int))
  | 0, _, _, _ => none
  | _ + 1, [], f, c => some (.ok (f, c))
  | k + 1, a :: o, f, c =>
    if a ∈ T then some (.error (160, a))
    else if (lookAt code a).2 ≠ 0 then some (.error ((lookAt code a).2, a))
    else wl code T k ((leadsOf (lookAt code a).1).foldl (push (insI (lookAt code a).1 f)) o) (insI (lookAt code a).1 f) (if (lookAt code a).1.op = 1 then ins (lookAt code a).1.word c else c)
/-- The first instruction that lies in another's operand. -/
def clash (f : List FI) : Option Int := (f.find? (fun x => f.any (fun y => hasOperand y.op && (IntKind.u16.wrap (y.at_ + 2) == x.at_)))).map FI.at_
structure FW where
  at_ : Int
  instrs : List FI
  calls : List Int
def endOf (w : Int) : Except (Int × Int) (List FI × List Int) → Except (Int × Int) FW
  | .error e => .error e
  | .ok (f, c) => match clash f with
    | some a => .error (160, a)
    | none => .ok ⟨w, f, c⟩
def wordOf (k : Nat) (code T : List Int) (w : Int) : Option (Except (Int × Int) FW) :=
  if cellOf code w = some 1 then (wl code T k [IntKind.u16.wrap (w + 2)] [] []).map (endOf w) else some (.error (163, w))

/-! ### what holds of what is found -/
theorem mem_leads {x : FI} {l : Int} (h : l ∈ leadsOf x) : l = x.operand ∨ l = x.next := by
  unfold leadsOf at h
  split at h
  · exact .inl (by simpa using h)
  · split at h
    · rcases List.mem_cons.1 h with h | h
      · exact .inr h
      · exact .inl (by simpa using h)
    · split at h
      · cases h
      · exact .inr (by simpa using h)
/-- All numbers of an instruction are in their ranges. -/
structure FI.Ok (x : FI) : Prop where
  at_ : 0 ≤ x.at_ ∧ x.at_ < 65536
  op : 1 ≤ x.op ∧ x.op < 64
  word : 0 ≤ x.word ∧ x.word < 65536
  operand : 0 ≤ x.operand ∧ x.operand < 65536
  next : 0 ≤ x.next ∧ x.next < 65536
theorem FI.Ok.leads {x : FI} (h : x.Ok) {l : Int} (hl : l ∈ leadsOf x) : 0 ≤ l ∧ l < 65536 := by
  rcases mem_leads hl with rfl | rfl
  · exact h.operand
  · exact h.next

theorem lookAt_ok {code : List Int} (hb : ∀ j, 0 ≤ code.getD j 0 ∧ code.getD j 0 < 256) {a : Int} (ha : 0 ≤ a ∧ a < 65536) (h : (lookAt code a).2 = 0) : (lookAt code a).1.at_ = a ∧ (lookAt code a).1.Ok := by
  unfold lookAt at h ⊢
  have z : (0 : Int) ≤ 0 ∧ (0 : Int) < 65536 := by decide
  cases hc : cellOf code a with
  | none => rw [hc] at h; exact absurd (show (162 : Int) = 0 from h) (by decide)
  | some t =>
    rw [hc] at h
    dsimp only at h ⊢
    have bt := cellOf_range hb hc
    cases hd : cellOf code t with
    | none => rw [hd] at h; exact absurd (show (161 : Int) = 0 from h) (by decide)
    | some o =>
      rw [hd] at h
      dsimp only at h ⊢
      by_cases hr : o < 1 ∨ 64 ≤ o
      · rw [if_pos hr] at h; exact absurd (show (161 : Int) = 0 from h) (by decide)
      · rw [if_neg hr] at h ⊢
        have ho : 1 ≤ o ∧ o < 64 := by omega
        by_cases n1 : o = 1
        · rw [if_pos n1]; exact ⟨rfl, ha, (by decide : (1 : Int) ≤ 1 ∧ (1 : Int) < 64), bt, z, wrap16_range _⟩
        · rw [if_neg n1] at h ⊢
          by_cases n2 : o = 2
          · rw [if_pos n2] at h ⊢
            cases hv : cellOf code (IntKind.u16.wrap (t + 2)) with
            | none => rw [hv] at h; exact absurd (show (162 : Int) = 0 from h) (by decide)
            | some v => exact ⟨rfl, ha, (by decide : (1 : Int) ≤ 2 ∧ (2 : Int) < 64), bt, cellOf_range hb hv, wrap16_range _⟩
          · rw [if_neg n2] at h ⊢
            by_cases hp : hasOperand o = true
            · rw [if_pos hp] at h ⊢
              cases hv : cellOf code (IntKind.u16.wrap (a + 2)) with
              | none => rw [hv] at h; exact absurd (show (162 : Int) = 0 from h) (by decide)
              | some v =>
                rw [hv] at h
                dsimp only at h ⊢
                by_cases hu : o ≠ 3 ∧ cellOf code v = none
                · rw [if_pos hu] at h; exact absurd (show (160 : Int) = 0 from h) (by decide)
                · rw [if_neg hu]
                  exact ⟨rfl, ha, ho, z, cellOf_range hb hv, wrap16_range _⟩
            · rw [if_neg hp]
              exact ⟨rfl, ha, ho, z, z, wrap16_range _⟩
end Go.Proofs.YtabeljpnmmfpgaaDoor

namespace Go.Proofs.YtabeljpnmmfpgaaDoor
open Go.RowKit Go.MapKept
set_option linter.unusedVariables false
set_option linter.unusedSimpArgs false

theorem rise_len : ∀ (l : List Int) (lo L : Int), l.Pairwise (fun a b => a < b) → (∀ x ∈ l, lo ≤ x ∧ x < L) → (l.length : Int) ≤ max 0 (L - lo)
  | [], lo, L, _, _ => by simp; omega
  | a :: l, lo, L, hp, h => by
    obtain ⟨h1, h2⟩ := List.pairwise_cons.1 hp
    have ha := h a List.mem_cons_self
    have := rise_len l (a + 1) L h2 (fun x hx => ⟨by have := h1 x hx; omega, (h x (List.mem_cons_of_mem _ hx)).2⟩)
    simp only [List.length_cons]
    omega
theorem lookAt_cell {code : List Int} {a : Int} (h : (lookAt code a).2 = 0) : ∃ t, cellOf code a = some t := by
  unfold lookAt at h
  cases hc : cellOf code a with
  | none => rw [hc] at h; exact absurd (show (162 : Int) = 0 from h) (by decide)
  | some t => exact ⟨t, rfl⟩
theorem lookAt_word {code : List Int} {a : Int} (h : (lookAt code a).2 = 0) (h1 : (lookAt code a).1.op = 1) : cellOf code (lookAt code a).1.word = some 1 := by
  unfold lookAt at h h1 ⊢
  cases hc : cellOf code a with
  | none => rw [hc] at h; exact absurd (show (162 : Int) = 0 from h) (by decide)
  | some t =>
    rw [hc] at h h1
    dsimp only at h h1 ⊢
    cases hd : cellOf code t with
    | none => rw [hd] at h; exact absurd (show (161 : Int) = 0 from h) (by decide)
    | some o =>
      rw [hd] at h h1
      dsimp only at h h1 ⊢
      by_cases hr : o < 1 ∨ 64 ≤ o
      · rw [if_pos hr] at h; exact absurd (show (161 : Int) = 0 from h) (by decide)
      · rw [if_neg hr] at h h1 ⊢
        by_cases n1 : o = 1
        · rw [if_pos n1]; show cellOf code t = some 1; rw [hd, n1]
        · rw [if_neg n1] at h h1
          exfalso
          by_cases n2 : o = 2
          · rw [if_pos n2] at h h1
            cases hv : cellOf code (IntKind.u16.wrap (t + 2)) with
            | none => rw [hv] at h; exact absurd (show (162 : Int) = 0 from h) (by decide)
            | some v => rw [hv] at h1; exact absurd (show (2 : Int) = 1 from h1) (by decide)
          · rw [if_neg n2] at h h1
            by_cases hp : hasOperand o = true
            · rw [if_pos hp] at h h1
              cases hv : cellOf code (IntKind.u16.wrap (a + 2)) with
              | none => rw [hv] at h; exact absurd (show (162 : Int) = 0 from h) (by decide)
              | some v =>
                rw [hv] at h h1
                dsimp only at h h1
                by_cases hu : o ≠ 3 ∧ cellOf code v = none
                · rw [if_pos hu] at h; exact absurd (show (160 : Int) = 0 from h) (by decide)
                · rw [if_neg hu] at h1; exact n1 h1
            · rw [if_neg hp] at h1; exact n1 h1
theorem cellOf_in {code : List Int} {a v : Int} (h : cellOf code a = some v) : a + 1 < code.length ∧ a % 2 = 0 := by
  unfold cellOf at h
  split at h
  · rename_i hc; exact ⟨hc.2, hc.1⟩
  · cases h

theorem insI_len (x : FI) : ∀ l : List FI, (∀ y ∈ l, y.at_ ≠ x.at_) → (insI x l).length = l.length + 1
  | [], _ => rfl
  | y :: l, h => by
    unfold insI
    split
    · simp
    · split
      · rename_i h1 h2; exact absurd h2.symm (h y List.mem_cons_self)
      · simp only [List.length_cons]
        rw [insI_len x l (fun z hz => h z (List.mem_cons_of_mem _ hz))]
theorem insI_mem (x z : FI) : ∀ l : List FI, (∀ y ∈ l, y.at_ ≠ x.at_) → (z ∈ insI x l ↔ z = x ∨ z ∈ l)
  | [], _ => by simp [insI]
  | y :: l, h => by
    unfold insI
    split
    · simp
    · split
      · rename_i h1 h2; exact absurd h2.symm (h y List.mem_cons_self)
      · rw [List.mem_cons, insI_mem x z l (fun z hz => h z (List.mem_cons_of_mem _ hz)), List.mem_cons]
        constructor
        · rintro (h | h | h)
          · exact .inr (.inl h)
          · exact .inl h
          · exact .inr (.inr h)
        · rintro (h | h | h)
          · exact .inr (.inl h)
          · exact .inl h
          · exact .inr (.inr h)
theorem fFn_none {f : List FI} {n : Int} : (fFn f n).isSome = false ↔ ∀ y ∈ f, y.at_ ≠ n := by
  unfold fFn
  rw [Option.isSome_map, ← Bool.not_eq_true, List.find?_isSome]
  constructor
  · intro h y hy e; exact h ⟨y, hy, by simp [e]⟩
  · rintro h ⟨y, hy, e⟩; exact h y hy (by simpa using e)

/-- What holds while a word is gone along: what is open is not found. -/
structure WInv (code : List Int) (o : List Int) (f : List FI) (c : List Int) : Prop where
  os : o.Pairwise (fun a b => a < b)
  fs : f.Pairwise (fun a b => a.at_ < b.at_)
  cs : c.Pairwise (fun a b => a < b)
  orange : ∀ a ∈ o, 0 ≤ a ∧ a < 65536
  fin : ∀ x ∈ f, 0 ≤ x.at_ ∧ x.at_ + 1 < code.length ∧ x.at_ % 2 = 0 ∧ x.Ok ∧ (lookAt code x.at_) = (x, 0)
  cin : ∀ x ∈ c, 0 ≤ x ∧ x < 65536 ∧ x + 1 < code.length ∧ cellOf code x = some 1
  off : ∀ a ∈ o, ∀ y ∈ f, y.at_ ≠ a
theorem push_mem {f : List FI} : ∀ (l o : List Int) (a : Int), a ∈ l.foldl (push f) o → a ∈ o ∨ (a ∈ l ∧ ∀ y ∈ f, y.at_ ≠ a)
  | [], o, a, h => .inl h
  | x :: l, o, a, h => by
    rcases push_mem l _ a h with h | ⟨h1, h2⟩
    · unfold push at h
      split at h
      · exact .inl h
      · rename_i hf
        rcases (mem_ins x a o).1 h with rfl | h
        · exact .inr ⟨List.mem_cons_self, fFn_none.1 (by simpa using hf)⟩
        · exact .inl h
    · exact .inr ⟨List.mem_cons_of_mem _ h1, h2⟩
theorem push_sorted' (f : List FI) : ∀ (l o : List Int), o.Pairwise (fun a b => a < b) → (l.foldl (push f) o).Pairwise (fun a b => a < b)
  | [], o, h => h
  | x :: l, o, h => push_sorted' f l _ (by unfold push; split; exact h; exact ins_sorted x o h)
theorem WInv.next {code : List Int} {a : Int} {o : List Int} {f : List FI} {c : List Int} (hb : ∀ j, 0 ≤ code.getD j 0 ∧ code.getD j 0 < 256) (h : WInv code (a :: o) f c) (he : (lookAt code a).2 = 0) :
    WInv code ((leadsOf (lookAt code a).1).foldl (push (insI (lookAt code a).1 f)) o) (insI (lookAt code a).1 f) (if (lookAt code a).1.op = 1 then ins (lookAt code a).1.word c else c) ∧ (insI (lookAt code a).1 f).length = f.length + 1 := by
  obtain ⟨ha, hok⟩ := lookAt_ok hb (h.orange a List.mem_cons_self) he
  obtain ⟨t, ht⟩ := lookAt_cell he
  have hin := cellOf_in ht
  obtain ⟨o1, o2⟩ := List.pairwise_cons.1 h.os
  have hnew : ∀ y ∈ f, y.at_ ≠ (lookAt code a).1.at_ := fun y hy => by rw [ha]; exact h.off a List.mem_cons_self y hy
  have hself : lookAt code (lookAt code a).1.at_ = ((lookAt code a).1, 0) := by rw [ha, ← he]
  have hword : (lookAt code a).1.op = 1 → cellOf code (lookAt code a).1.word = some 1 := fun h1 => lookAt_word he h1
  refine ⟨⟨push_sorted' _ _ _ o2, insI_sorted _ _ h.fs, ?_, ?_, ?_, ?_, ?_⟩, insI_len _ _ hnew⟩
  · split
    · exact ins_sorted _ _ h.cs
    · exact h.cs
  · intro b hb'
    rcases push_mem _ _ _ hb' with h1 | ⟨h1, _⟩
    · exact h.orange b (List.mem_cons_of_mem _ h1)
    · exact hok.leads h1
  · intro x hx
    rcases (insI_mem _ _ _ hnew).1 hx with rfl | hx
    · exact ⟨hok.at_.1, by rw [ha]; exact hin.1, by rw [ha]; exact hin.2, hok, hself⟩
    · exact h.fin x hx
  · intro x hx
    split at hx
    · rename_i h1
      rcases (mem_ins _ _ _).1 hx with rfl | hx
      · exact ⟨hok.word.1, hok.word.2, (cellOf_in (hword h1)).1, hword h1⟩
      · exact h.cin x hx
    · exact h.cin x hx
  · intro b hb' y hy
    rcases push_mem _ _ _ hb' with h1 | ⟨_, h2⟩
    · rcases (insI_mem _ _ _ hnew).1 hy with rfl | hy
      · have := o1 b h1; rw [ha]; omega
      · exact h.off b (List.mem_cons_of_mem _ h1) y hy
    · exact h2 y hy
/-- What the loop has at its end. -/
theorem wl_inv {code T : List Int} (hb : ∀ j, 0 ≤ code.getD j 0 ∧ code.getD j 0 < 256) : ∀ (k : Nat) (o : List Int) (f : List FI) (c : List Int) (f' : List FI) (c' : List Int), WInv code o f c → wl code T k o f c = some (.ok (f', c')) → WInv code [] f' c'
  | 0, _, _, _, _, _, _, h => by cases h
  | k + 1, [], f, c, f', c', hi, h => by
    unfold wl at h
    cases h
    exact hi
  | k + 1, a :: o, f, c, f', c', hi, h => by
    unfold wl at h
    split at h
    · cases h
    · split at h
      · cases h
      · rename_i h1 h2
        exact wl_inv hb k _ _ _ f' c' (hi.next hb (by simpa using h2)).1 h
/-- With rounds enough the loop ends. -/
theorem wl_some {code T : List Int} (hb : ∀ j, 0 ≤ code.getD j 0 ∧ code.getD j 0 < 256) : ∀ (k : Nat) (o : List Int) (f : List FI) (c : List Int), WInv code o f c → code.length < k + f.length → ∃ r, wl code T k o f c = some r
  | 0, o, f, c, hi, h => by
    have := rise_len (f.map FI.at_) 0 code.length (List.pairwise_map.2 hi.fs) (fun x hx => by
      obtain ⟨y, hy, rfl⟩ := List.mem_map.1 hx
      have := hi.fin y hy
      omega)
    simp at this
    omega
  | k + 1, [], f, c, hi, h => ⟨_, by unfold wl; rfl⟩
  | k + 1, a :: o, f, c, hi, h => by
    unfold wl
    split
    · exact ⟨_, rfl⟩
    · split
      · exact ⟨_, rfl⟩
      · rename_i h1 h2
        obtain ⟨n1, n2⟩ := hi.next hb (by simpa using h2)
        exact wl_some hb k _ _ _ n1 (by rw [n2]; omega)
theorem WInv.start {code : List Int} (a : Int) (h : 0 ≤ a ∧ a < 65536) : WInv code [a] [] [] :=
  ⟨List.pairwise_singleton _ _, List.Pairwise.nil, List.Pairwise.nil, (fun b hb => by rw [List.mem_singleton.1 hb]; exact h), (fun x hx => by cases hx), (fun x hx => by cases hx), (fun b _ y hy => by cases hy)⟩
theorem WInv.lens {code : List Int} {o : List Int} {f : List FI} {c : List Int} (h : WInv code o f c) : f.length ≤ code.length ∧ c.length ≤ code.length := by
  have h1 := rise_len (f.map FI.at_) 0 code.length (List.pairwise_map.2 h.fs) (fun x hx => by
    obtain ⟨y, hy, rfl⟩ := List.mem_map.1 hx
    have := h.fin y hy
    omega)
  have h2 := rise_len c 0 code.length h.cs (fun x hx => by have := h.cin x hx; omega)
  simp at h1
  omega

/-! ### all words -/
/-- A word that is called. -/
def pushW (seen : List Int) (o : List Int) (c : Int) : List Int := if c ∈ seen then o else ins c o
def wsl (code : List Int) (kw : Nat) : Nat → List Int → List Int → List Int → List FW → Option (Except (Int × Int) (List FW))
  | 0, _, _, _, _ => none
  | _ + 1, [], _, _, acc => some (.ok acc)
  | k + 1, a :: o, seen, T, acc =>
    match wordOf kw code T a with
    | none => none
    | some (.error e) => some (.error e)
    | some (.ok x) => wsl code kw k (x.calls.foldl (pushW (ins a seen)) o) (ins a seen) (T ++ x.instrs.map FI.at_) (acc ++ [x])
/-- What a word that is told is. -/
structure FW.Ok (code : List Int) (x : FW) : Prop where
  inv : WInv code [] x.instrs x.calls
  cell : cellOf code x.at_ = some 1
  cl : clash x.instrs = none
theorem wordOf_ok {code T : List Int} (hb : ∀ j, 0 ≤ code.getD j 0 ∧ code.getD j 0 < 256) {kw : Nat} {a : Int} {x : FW} (h : wordOf kw code T a = some (.ok x)) : x.Ok code ∧ x.at_ = a := by
  unfold wordOf at h
  split at h
  · rename_i hc
    cases hw : wl code T kw [IntKind.u16.wrap (a + 2)] [] [] with
    | none => rw [hw] at h; cases h
    | some r =>
      rw [hw] at h
      cases r with
      | error e => cases h
      | ok fc =>
        obtain ⟨f, c⟩ := fc
        simp only [Option.map_some, endOf] at h
        cases hcl : clash f with
        | some b => rw [hcl] at h; cases h
        | none =>
          rw [hcl] at h
          cases h
          exact ⟨⟨wl_inv hb kw _ _ _ _ _ (WInv.start _ (wrap16_range _)) hw, hc, hcl⟩, rfl⟩
  · cases h
theorem wordOf_some {code T : List Int} (hb : ∀ j, 0 ≤ code.getD j 0 ∧ code.getD j 0 < 256) {kw : Nat} (a : Int) (hk : code.length < kw) : ∃ r, wordOf kw code T a = some r := by
  unfold wordOf
  split
  · obtain ⟨r, hr⟩ := wl_some (T := T) hb kw [IntKind.u16.wrap (a + 2)] [] [] (WInv.start _ (wrap16_range _)) (by simpa using hk)
    rw [hr]
    exact ⟨_, rfl⟩
  · exact ⟨_, rfl⟩
theorem pushW_mem {s : List Int} : ∀ (l o : List Int) (a : Int), a ∈ l.foldl (pushW s) o → a ∈ o ∨ (a ∈ l ∧ a ∉ s)
  | [], o, a, h => .inl h
  | x :: l, o, a, h => by
    rcases pushW_mem l _ a h with h | ⟨h1, h2⟩
    · unfold pushW at h
      split at h
      · exact .inl h
      · rename_i hf
        rcases (mem_ins x a o).1 h with rfl | h
        · exact .inr ⟨List.mem_cons_self, hf⟩
        · exact .inl h
    · exact .inr ⟨List.mem_cons_of_mem _ h1, h2⟩
theorem pushW_sorted (s : List Int) : ∀ (l o : List Int), o.Pairwise (fun a b => a < b) → (l.foldl (pushW s) o).Pairwise (fun a b => a < b)
  | [], o, h => h
  | x :: l, o, h => pushW_sorted s l _ (by unfold pushW; split; exact h; exact ins_sorted x o h)
/-- What holds while the words are gone along. -/
structure SInv (code : List Int) (o seen T : List Int) (acc : List FW) : Prop where
  os : o.Pairwise (fun a b => a < b)
  ss : seen.Pairwise (fun a b => a < b)
  orange : ∀ a ∈ o, 0 ≤ a ∧ a < 65536
  off : ∀ a ∈ o, a ∉ seen
  who : ∀ a, a ∈ seen ↔ ∃ x ∈ acc, x.at_ = a
  ok : ∀ x ∈ acc, x.Ok code ∧ 0 ≤ x.at_ ∧ x.at_ < 65536
  nd : (acc.map FW.at_).Nodup
  taken : T = acc.flatMap fun x => x.instrs.map FI.at_
  len : seen.length = acc.length
theorem ins_len (x : Int) : ∀ l : List Int, x ∉ l → (ins x l).length = l.length + 1
  | [], _ => rfl
  | y :: l, h => by
    unfold ins
    split
    · simp
    · split
      · rename_i h1 h2; exact absurd (h2 ▸ List.mem_cons_self) h
      · simp only [List.length_cons]
        rw [ins_len x l (fun hz => h (List.mem_cons_of_mem _ hz))]
theorem SInv.next {code : List Int} {a : Int} {o seen T : List Int} {acc : List FW} {x : FW} (h : SInv code (a :: o) seen T acc) (hx : x.Ok code) (ha : x.at_ = a) :
    SInv code (x.calls.foldl (pushW (ins a seen)) o) (ins a seen) (T ++ x.instrs.map FI.at_) (acc ++ [x]) := by
  obtain ⟨o1, o2⟩ := List.pairwise_cons.1 h.os
  have hn : a ∉ seen := h.off a List.mem_cons_self
  refine ⟨pushW_sorted _ _ _ o2, ins_sorted _ _ h.ss, ?_, ?_, ?_, ?_, ?_, ?_, ?_⟩
  · intro b hb
    rcases pushW_mem _ _ _ hb with h1 | ⟨h1, _⟩
    · exact h.orange b (List.mem_cons_of_mem _ h1)
    · have := hx.inv.cin b h1; omega
  · intro b hb
    rcases pushW_mem _ _ _ hb with h1 | ⟨_, h2⟩
    · rw [mem_ins]
      rintro (e | e)
      · have := o1 b h1; omega
      · exact h.off b (List.mem_cons_of_mem _ h1) e
    · exact h2
  · intro b
    rw [mem_ins, h.who]
    constructor
    · rintro (e | ⟨y, hy, e⟩)
      · exact ⟨x, by simp, by rw [ha, e]⟩
      · exact ⟨y, by simp [hy], e⟩
    · rintro ⟨y, hy, e⟩
      rcases List.mem_append.1 hy with hy | hy
      · exact .inr ⟨y, hy, e⟩
      · rw [List.mem_singleton.1 hy] at e; exact .inl (by rw [← e, ha])
  · intro y hy
    rcases List.mem_append.1 hy with hy | hy
    · exact h.ok y hy
    · rw [List.mem_singleton.1 hy]
      have := h.orange a List.mem_cons_self
      exact ⟨hx, by rw [ha]; exact this.1, by rw [ha]; exact this.2⟩
  · rw [List.map_append, List.nodup_append]
    refine ⟨h.nd, by simp, ?_⟩
    intro b hb c hc e
    obtain ⟨y, hy, e1⟩ := List.mem_map.1 hb
    have hc : c = x.at_ := by simpa using hc
    exact hn ((h.who a).2 ⟨y, hy, by rw [e1, e, hc, ha]⟩)
  · rw [h.taken]; simp
  · rw [ins_len _ _ hn, h.len]; simp
theorem SInv.start (code : List Int) (a : Int) (h : 0 ≤ a ∧ a < 65536) : SInv code [a] [] [] [] :=
  ⟨List.pairwise_singleton _ _, List.Pairwise.nil, (fun b hb => by rw [List.mem_singleton.1 hb]; exact h), (fun b _ hb => by cases hb), (fun b => by simp), (fun x hx => by cases hx), by simp, rfl, rfl⟩
theorem SInv.lens {code : List Int} {o seen T : List Int} {acc : List FW} (h : SInv code o seen T acc) : acc.length ≤ code.length := by
  have := rise_len seen 0 code.length h.ss (fun x hx => by
    obtain ⟨y, hy, rfl⟩ := (h.who x).1 hx
    have h1 := h.ok y hy
    have := (cellOf_in h1.1.cell).1
    omega)
  have := h.len
  omega
theorem wsl_inv {code : List Int} (hb : ∀ j, 0 ≤ code.getD j 0 ∧ code.getD j 0 < 256) {kw : Nat} : ∀ (k : Nat) (o seen T : List Int) (acc ws : List FW), SInv code o seen T acc → wsl code kw k o seen T acc = some (.ok ws) → ∃ seen T, SInv code [] seen T ws
  | 0, _, _, _, _, _, _, h => by cases h
  | k + 1, [], seen, T, acc, ws, hi, h => by
    unfold wsl at h
    cases h
    exact ⟨_, _, hi⟩
  | k + 1, a :: o, seen, T, acc, ws, hi, h => by
    unfold wsl at h
    split at h
    · cases h
    · cases h
    · rename_i x hx
      obtain ⟨h1, h2⟩ := wordOf_ok hb hx
      exact wsl_inv hb k _ _ _ _ ws (hi.next h1 h2) h
theorem wsl_some {code : List Int} (hb : ∀ j, 0 ≤ code.getD j 0 ∧ code.getD j 0 < 256) {kw : Nat} (hk : code.length < kw) : ∀ (k : Nat) (o seen T : List Int) (acc : List FW), SInv code o seen T acc → code.length < k + acc.length → ∃ r, wsl code kw k o seen T acc = some r
  | 0, o, seen, T, acc, hi, h => by have := hi.lens; omega
  | k + 1, [], seen, T, acc, hi, h => ⟨_, by unfold wsl; rfl⟩
  | k + 1, a :: o, seen, T, acc, hi, h => by
    obtain ⟨r, hr⟩ := wordOf_some (T := T) hb a hk
    unfold wsl
    rw [hr]
    cases r with
    | error e => exact ⟨_, rfl⟩
    | ok x =>
      obtain ⟨h1, h2⟩ := wordOf_ok hb hr
      exact wsl_some hb hk k _ _ _ _ (hi.next h1 h2) (by simp; omega)
end Go.Proofs.YtabeljpnmmfpgaaDoor
