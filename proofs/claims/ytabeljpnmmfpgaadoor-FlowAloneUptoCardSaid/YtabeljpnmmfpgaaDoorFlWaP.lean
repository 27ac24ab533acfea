/-
  What words that are told are: closed under ways and calls, apart, each instruction but a word's first led to. The plain law of FlowWays.
-/
import Derived.Test.YtabeljpnmmfpgaaDoorFlWords
namespace Go.Proofs.YtabeljpnmmfpgaaDoor
open Go.RowKit Go.MapKept Go.Maps Go.Sort
set_option linter.unusedVariables false
set_option linter.unusedSimpArgs false

theorem push_fwd (f : List FI) : ∀ (l o : List Int), (∀ a ∈ o, a ∈ l.foldl (push f) o) ∧ (∀ a ∈ l, a ∈ l.foldl (push f) o ∨ ∃ y ∈ f, y.at_ = a)
  | [], o => ⟨fun a h => h, fun a h => by cases h⟩
  | x :: l, o => by
    obtain ⟨h1, h2⟩ := push_fwd f l (push f o x)
    have h0 : ∀ a ∈ o, a ∈ push f o x := fun a ha => by
      unfold push
      split
      · exact ha
      · exact (mem_ins x a o).2 (.inr ha)
    have hx : x ∈ push f o x ∨ ∃ y ∈ f, y.at_ = x := by
      unfold push
      split
      · rename_i h
        by_cases he : ∃ y ∈ f, y.at_ = x
        · exact .inr he
        · have : (fFn f x).isSome = false := fFn_none.2 (fun y hy e => he ⟨y, hy, e⟩)
          rw [this] at h
          cases h
      · exact .inl ((mem_ins x x o).2 (.inl rfl))
    refine ⟨fun a ha => h1 a (h0 a ha), fun a ha => ?_⟩
    rcases List.mem_cons.1 ha with rfl | ha
    · rcases hx with h | h
      · exact .inl (h1 _ h)
      · exact .inr h
    · exact h2 a ha
/-- What is open, or found, of a word that starts at s. -/
structure WClo (T : List Int) (s : Int) (o : List Int) (f : List FI) (c : List Int) : Prop where
  start : s ∈ o ∨ ∃ y ∈ f, y.at_ = s
  clos : ∀ x ∈ f, ∀ a ∈ leadsOf x, a ∈ o ∨ ∃ y ∈ f, y.at_ = a
  ent : ∀ x ∈ f, x.op = 1 → x.word ∈ c
  apart : ∀ x ∈ f, x.at_ ∉ T
  led : ∀ a, (a ∈ o ∨ ∃ y ∈ f, y.at_ = a) → a = s ∨ ∃ x ∈ f, a ∈ leadsOf x
theorem WClo.begin (T : List Int) (s : Int) : WClo T s [s] [] [] :=
  ⟨.inl List.mem_cons_self, (fun x hx => by cases hx), (fun x hx => by cases hx), (fun x hx => by cases hx), fun a ha => by
    rcases ha with ha | ⟨y, hy, _⟩
    · exact .inl (by simpa using ha)
    · cases hy⟩
theorem WClo.next {T : List Int} {s a : Int} {o : List Int} {f : List FI} {c : List Int} {x : FI} (h : WClo T s (a :: o) f c) (hx : x.at_ = a) (hT : a ∉ T) (ho : ∀ y ∈ f, y.at_ ≠ a) :
    WClo T s ((leadsOf x).foldl (push (insI x f)) o) (insI x f) (if x.op = 1 then ins x.word c else c) := by
  have mem : ∀ z, z ∈ insI x f ↔ z = x ∨ z ∈ f := fun z => insI_mem x z f (fun y hy => by rw [hx]; exact ho y hy)
  obtain ⟨f1, f2⟩ := push_fwd (insI x f) (leadsOf x) o
  have up : ∀ b, (b ∈ a :: o ∨ ∃ y ∈ f, y.at_ = b) → b ∈ (leadsOf x).foldl (push (insI x f)) o ∨ ∃ y ∈ insI x f, y.at_ = b := fun b hb => by
    rcases hb with hb | ⟨y, hy, e⟩
    · rcases List.mem_cons.1 hb with rfl | hb
      · exact .inr ⟨x, (mem x).2 (.inl rfl), hx⟩
      · exact .inl (f1 b hb)
    · exact .inr ⟨y, (mem y).2 (.inr hy), e⟩
  refine ⟨up s h.start, fun z hz b hb => ?_, fun z hz e => ?_, fun z hz => ?_, fun b hb => ?_⟩
  · rcases (mem z).1 hz with rfl | hz
    · exact f2 b hb
    · exact up b (h.clos z hz b hb)
  · rcases (mem z).1 hz with rfl | hz
    · rw [if_pos e]
      exact (mem_ins _ _ _).2 (.inl rfl)
    · have := h.ent z hz e
      split
      · exact (mem_ins _ _ _).2 (.inr this)
      · exact this
  · rcases (mem z).1 hz with rfl | hz
    · rw [hx]; exact hT
    · exact h.apart z hz
  · have old : (b ∈ a :: o ∨ ∃ y ∈ f, y.at_ = b) → b = s ∨ ∃ z ∈ insI x f, b ∈ leadsOf z := fun hb => by
      rcases h.led b hb with e | ⟨z, hz, e⟩
      · exact .inl e
      · exact .inr ⟨z, (mem z).2 (.inr hz), e⟩
    rcases hb with hb | ⟨y, hy, e⟩
    · rcases push_mem _ _ _ hb with hb | ⟨hb, _⟩
      · exact old (.inl (List.mem_cons_of_mem _ hb))
      · exact .inr ⟨x, (mem x).2 (.inl rfl), hb⟩
    · rcases (mem y).1 hy with rfl | hy
      · exact old (.inl (by rw [← e, hx]; exact List.mem_cons_self))
      · exact old (.inr ⟨y, hy, e⟩)
theorem wl_clo {code T : List Int} {s : Int} (hb : ∀ j, 0 ≤ code.getD j 0 ∧ code.getD j 0 < 256) : ∀ (k : Nat) (o : List Int) (f : List FI) (c : List Int) (f' : List FI) (c' : List Int), WInv code o f c → WClo T s o f c → wl code T k o f c = some (.ok (f', c')) → WClo T s [] f' c'
  | 0, _, _, _, _, _, _, _, h => by cases h
  | k + 1, [], f, c, f', c', hi, hc, h => by
    unfold wl at h
    cases h
    exact hc
  | k + 1, a :: o, f, c, f', c', hi, hc, h => by
    unfold wl at h
    split at h
    · cases h
    · rename_i hT
      split at h
      · cases h
      · rename_i he
        have he : (lookAt code a).2 = 0 := by simpa using he
        obtain ⟨e1, e2⟩ := lookAt_ok hb (hi.orange a List.mem_cons_self) he
        exact wl_clo hb k _ _ _ f' c' (hi.next hb he).1 (hc.next e1 hT (hi.off a List.mem_cons_self)) h
theorem wordOf_clo {code T : List Int} (hb : ∀ j, 0 ≤ code.getD j 0 ∧ code.getD j 0 < 256) {kw : Nat} {a : Int} {x : FW} (h : wordOf kw code T a = some (.ok x)) : WClo T (IntKind.u16.wrap (x.at_ + 2)) [] x.instrs x.calls := by
  have ha := (wordOf_ok hb h).2
  unfold wordOf at h
  split at h
  · cases hw : wl code T kw [IntKind.u16.wrap (a + 2)] [] [] with
    | none => rw [hw] at h; cases h
    | some r =>
      rw [hw] at h
      cases r with
      | error e =>
        obtain ⟨e1, e2⟩ := e
        cases h
      | ok fc =>
        obtain ⟨f, c⟩ := fc
        have q := wl_clo hb kw _ _ _ f c (WInv.start _ (wrap16_range _)) (WClo.begin T _) hw
        simp only [Option.map_some, endOf] at h
        cases hcl : clash f with
        | some b => rw [hcl] at h; cases h
        | none =>
          rw [hcl] at h
          cases h
          exact q
  · cases h
/-- Of all words. -/
structure SClo (en : Int) (o seen : List Int) (acc : List FW) : Prop where
  start : en ∈ o ∨ en ∈ seen
  clos : ∀ x ∈ acc, ∀ c ∈ x.calls, c ∈ o ∨ c ∈ seen
  each : ∀ x ∈ acc, ∃ T, WClo T (IntKind.u16.wrap (x.at_ + 2)) [] x.instrs x.calls
  apart : acc.Pairwise (fun x y => ∀ a ∈ x.instrs, ∀ b ∈ y.instrs, a.at_ ≠ b.at_)
theorem pushW_fwd (s : List Int) : ∀ (l o : List Int), (∀ a ∈ o, a ∈ l.foldl (pushW s) o) ∧ (∀ a ∈ l, a ∈ l.foldl (pushW s) o ∨ a ∈ s)
  | [], o => ⟨fun a h => h, fun a h => by cases h⟩
  | x :: l, o => by
    obtain ⟨h1, h2⟩ := pushW_fwd s l (pushW s o x)
    have h0 : ∀ a ∈ o, a ∈ pushW s o x := fun a ha => by
      unfold pushW
      split
      · exact ha
      · exact (mem_ins x a o).2 (.inr ha)
    have hx : x ∈ pushW s o x ∨ x ∈ s := by
      unfold pushW
      split
      · rename_i h; exact .inr h
      · exact .inl ((mem_ins x x o).2 (.inl rfl))
    refine ⟨fun a ha => h1 a (h0 a ha), fun a ha => ?_⟩
    rcases List.mem_cons.1 ha with rfl | ha
    · rcases hx with h | h
      · exact .inl (h1 _ h)
      · exact .inr h
    · exact h2 a ha
theorem SClo.next {code : List Int} (hb : ∀ j, 0 ≤ code.getD j 0 ∧ code.getD j 0 < 256) {en a : Int} {o seen T : List Int} {acc : List FW} {x : FW} {kw : Nat} (hi : SInv code (a :: o) seen T acc) (h : SClo en (a :: o) seen acc) (hw : wordOf kw code T a = some (.ok x)) : SClo en (x.calls.foldl (pushW (ins a seen)) o) (ins a seen) (acc ++ [x]) := by
  obtain ⟨f1, f2⟩ := pushW_fwd (ins a seen) x.calls o
  have q := wordOf_clo hb hw
  have up : ∀ b, (b ∈ a :: o ∨ b ∈ seen) → b ∈ x.calls.foldl (pushW (ins a seen)) o ∨ b ∈ ins a seen := fun b hb => by
    rcases hb with hb | hb
    · rcases List.mem_cons.1 hb with rfl | hb
      · exact .inr ((mem_ins _ _ _).2 (.inl rfl))
      · exact .inl (f1 b hb)
    · exact .inr ((mem_ins _ _ _).2 (.inr hb))
  refine ⟨up en h.start, fun z hz c hc => ?_, fun z hz => ?_, ?_⟩
  · rcases List.mem_append.1 hz with hz | hz
    · exact up c (h.clos z hz c hc)
    · rw [List.mem_singleton.1 hz] at hc
      exact f2 c hc
  · rcases List.mem_append.1 hz with hz | hz
    · exact h.each z hz
    · rw [List.mem_singleton.1 hz]
      exact ⟨T, q⟩
  · refine List.pairwise_append.2 ⟨h.apart, List.pairwise_singleton _ _, fun y hy z hz p hp b hb' e => ?_⟩
    rw [List.mem_singleton.1 hz] at hb'
    have hT : p.at_ ∈ T := by
      rw [hi.taken]
      exact List.mem_flatMap.2 ⟨y, hy, List.mem_map.2 ⟨p, hp, rfl⟩⟩
    exact q.apart b hb' (by rw [← e]; exact hT)
theorem wsl_clo {code : List Int} (hb : ∀ j, 0 ≤ code.getD j 0 ∧ code.getD j 0 < 256) {kw : Nat} {en : Int} : ∀ (k : Nat) (o seen T : List Int) (acc ws : List FW), SInv code o seen T acc → SClo en o seen acc → wsl code kw k o seen T acc = some (.ok ws) → ∃ seen T, SInv code [] seen T ws ∧ SClo en [] seen ws
  | 0, _, _, _, _, _, _, _, h => by cases h
  | k + 1, [], seen, T, acc, ws, hi, hc, h => by
    unfold wsl at h
    cases h
    exact ⟨seen, T, hi, hc⟩
  | k + 1, a :: o, seen, T, acc, ws, hi, hc, h => by
    unfold wsl at h
    cases hw : wordOf kw code T a with
    | none => rw [hw] at h; cases h
    | some r =>
      rw [hw] at h
      cases r with
      | error e => cases h
      | ok x =>
        obtain ⟨h1, h2⟩ := wordOf_ok hb hw
        exact wsl_clo hb k _ _ _ _ ws (hi.next h1 h2) (hc.next hb hi hw) h
/-- What the words that are told are. -/
structure Ways (code : List Int) (en : Int) (ws : List FW) : Prop where
  entry : ∃ x ∈ ws, x.at_ = en
  rise : ws.Pairwise (fun a b => a.at_ < b.at_)
  ok : ∀ x ∈ ws, x.Ok code ∧ 0 ≤ x.at_ ∧ x.at_ < 65536
  calls : ∀ x ∈ ws, ∀ c ∈ x.calls, ∃ y ∈ ws, y.at_ = c
  each : ∀ x ∈ ws, ∃ T, WClo T (IntKind.u16.wrap (x.at_ + 2)) [] x.instrs x.calls
  apart : ws.Pairwise (fun x y => ∀ a ∈ x.instrs, ∀ b ∈ y.instrs, a.at_ ≠ b.at_)
  len : ws.length ≤ code.length
theorem wordsFull_ways {kw k : Nat} {code : List Int} {en : Int} {E : List (Int × Int × Int)} {B : List (Int × Nat)} {ws : List FW} (hb : ∀ j, 0 ≤ code.getD j 0 ∧ code.getD j 0 < 256) (h0 : 0 ≤ en) (h1 : en < 65536) (h : wordsFull kw k code en E B = some (.ok ws)) : code.length ≤ 16384 ∧ Ways code en ws := by
  unfold wordsFull at h
  by_cases hok : cartOk code.length E B = true
  · rw [if_pos hok] at h
    have hl : code.length ≤ 16384 := by
      unfold cartOk at hok
      simp at hok
      omega
    unfold wordsOf at h
    cases hw : wsl code kw k [en] [] [] [] with
    | none => rw [hw] at h; cases h
    | some R =>
      rw [hw] at h
      cases R with
      | error e => cases h
      | ok acc =>
        have h := Option.some.inj h
        have h : Except.ok (sortFW acc) = (Except.ok ws : Except (Int × Int) (List FW)) := h
        injection h with h
        subst h
        obtain ⟨seen, T, hi, hc⟩ := wsl_clo (en := en) hb k _ _ _ _ _ (SInv.start code en ⟨h0, h1⟩) ⟨.inl List.mem_cons_self, (fun x hx => by cases hx), (fun x hx => by cases hx), List.Pairwise.nil⟩ hw
        have hp := sortFW_perm acc
        have who : ∀ a, a ∈ seen → ∃ x ∈ sortFW acc, x.at_ = a := fun a ha => by
          obtain ⟨x, hx, e⟩ := (hi.who a).1 ha
          exact ⟨x, hp.mem_iff.2 hx, e⟩
        refine ⟨hl, ?_, sortFW_sorted acc hi.nd, fun x hx => hi.ok x (hp.mem_iff.1 hx), fun x hx c hcc => ?_, fun x hx => hc.each x (hp.mem_iff.1 hx), ?_, by rw [hp.length_eq]; exact hi.lens⟩
        · rcases hc.start with h | h
          · cases h
          · exact who en h
        · rcases hc.clos x (hp.mem_iff.1 hx) c hcc with h | h
          · cases h
          · exact who c h
        · exact (hp.pairwise_iff (fun h a ha b hb' e => h b hb' a ha e.symm)).2 hc.apart
  · rw [if_neg hok] at h
    cases h
/-- What the cells say of an instruction. -/
structure Looks (code : List Int) (x : FI) (t : Int) : Prop where
  cell : cellOf code x.at_ = some t
  op : cellOf code t = some x.op
  rng : 1 ≤ x.op ∧ x.op < 64
  long : hasOperand x.op = true → cellOf code (IntKind.u16.wrap (x.at_ + 2)) = some x.operand ∧ x.next = IntKind.u16.wrap (x.at_ + 4) ∧ x.word = 0
  short : hasOperand x.op = false → x.next = IntKind.u16.wrap (x.at_ + 2)
  const : x.op = 2 → cellOf code (IntKind.u16.wrap (t + 2)) = some x.operand ∧ x.word = t
  enter : x.op = 1 → x.operand = 0 ∧ x.word = t
  other : hasOperand x.op = false → x.op ≠ 1 → x.op ≠ 2 → x.operand = 0 ∧ x.word = 0
theorem looks_of {code : List Int} {a : Int} {x : FI} (h : lookAt code a = (x, 0)) (hx : x.at_ = a) : ∃ t, Looks code x t := by
  subst hx
  unfold lookAt at h
  cases hc : cellOf code x.at_ with
  | none => rw [hc] at h; exact absurd (congrArg Prod.snd h) (show (162 : Int) ≠ 0 by decide)
  | some t =>
    rw [hc] at h
    dsimp only at h
    cases hd : cellOf code t with
    | none => rw [hd] at h; exact absurd (congrArg Prod.snd h) (show (161 : Int) ≠ 0 by decide)
    | some c =>
      rw [hd] at h
      dsimp only at h
      refine ⟨t, ?_⟩
      split at h
      · exact absurd (congrArg Prod.snd h) (show (161 : Int) ≠ 0 by decide)
      rename_i hr
      split at h
      · rename_i e1
        subst e1
        have e := (congrArg Prod.fst h).symm
        dsimp only at e
        generalize hA : x.at_ = A at *
        subst e
        exact ⟨hc, hd, (show (1 : Int) ≤ 1 ∧ (1 : Int) < 64 by decide), (fun h => by cases h), fun _ => rfl, fun h => absurd h (show (1 : Int) ≠ 2 by decide), fun _ => ⟨rfl, rfl⟩, fun _ h _ => absurd rfl h⟩
      rename_i n1
      split at h
      · rename_i e2
        subst e2
        cases hv : cellOf code (IntKind.u16.wrap (t + 2)) with
        | none => rw [hv] at h; exact absurd (congrArg Prod.snd h) (show (162 : Int) ≠ 0 by decide)
        | some v =>
          rw [hv] at h
          have e := (congrArg Prod.fst h).symm
          dsimp only at e
          generalize hA : x.at_ = A at *
          subst e
          exact ⟨hc, hd, (show (1 : Int) ≤ 2 ∧ (2 : Int) < 64 by decide), (fun h => by cases h), fun _ => rfl, fun _ => ⟨hv, rfl⟩, fun h => absurd h (show (2 : Int) ≠ 1 by decide), fun _ _ h => absurd rfl h⟩
      rename_i n2
      split at h
      · rename_i hh
        cases hv : cellOf code (IntKind.u16.wrap (x.at_ + 2)) with
        | none => rw [hv] at h; exact absurd (congrArg Prod.snd h) (show (162 : Int) ≠ 0 by decide)
        | some v =>
          rw [hv] at h
          dsimp only at h
          split at h
          · exact absurd (congrArg Prod.snd h) (show (160 : Int) ≠ 0 by decide)
          have e := (congrArg Prod.fst h).symm
          dsimp only at e
          generalize hA : x.at_ = A at *
          subst e
          exact ⟨hc, hd, by dsimp only; omega, fun _ => ⟨hv, rfl, rfl⟩, (fun h => by rw [hh] at h; cases h), fun h => absurd h n2, fun h => absurd h n1, (fun h => by rw [hh] at h; cases h)⟩
      · rename_i hh
        have e := (congrArg Prod.fst h).symm
        dsimp only at e
        generalize hA : x.at_ = A at *
        subst e
        exact ⟨hc, hd, by dsimp only; omega, fun h => absurd h hh, fun _ => rfl, fun h => absurd h n2, fun h => absurd h n1, fun _ _ _ => ⟨rfl, rfl⟩⟩
/-- No instruction lies in another's operand. -/
theorem clash_operand {f : List FI} (h : clash f = none) {x : FI} (hx : x ∈ f) (ho : hasOperand x.op = true) : ∀ y ∈ f, y.at_ ≠ IntKind.u16.wrap (x.at_ + 2) := fun y hy e => by
  unfold clash at h
  rw [Option.map_eq_none_iff, List.find?_eq_none] at h
  have := h y hy
  apply this
  rw [List.any_eq_true]
  exact ⟨x, hx, by rw [ho, Bool.true_and, beq_iff_eq]; exact e.symm⟩
end Go.Proofs.YtabeljpnmmfpgaaDoor
