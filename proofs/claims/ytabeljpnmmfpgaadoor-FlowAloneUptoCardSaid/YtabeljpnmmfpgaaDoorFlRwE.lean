/-
  The reference's word: walked.
-/
import Derived.Deep.RegionHeld3
import Derived.Deep.Cut
import Derived.Test.YtabeljpnmmfpgaaDoorFlRwD
import Derived.Test.YtabeljpnmmfpgaaDoorFlWhole
namespace Go.Proofs.YtabeljpnmmfpgaaDoor
open Go.RowKit Go.MapKept Go.Maps Go.Sort
set_option linter.unusedVariables false
set_option linter.unusedSimpArgs false

/-! ### the plain law: the first clash -/
def clAt (f : List FI) (x : FI) : Bool := hasOperand x.op && (fFn f (IntKind.u16.wrap (x.at_ + 2))).isSome
theorem fFn_has {f : List FI} {n : Int} : (fFn f n).isSome = true ↔ ∃ y ∈ f, y.at_ = n := by
  constructor
  · intro h
    have h2 : ¬ ((fFn f n).isSome = false) := by rw [h]; simp
    rw [fFn_none] at h2
    simp only [Classical.not_forall, Classical.not_not] at h2
    obtain ⟨y, hy, e⟩ := h2
    exact ⟨y, hy, e⟩
  · rintro ⟨y, hy, e⟩
    cases hq : (fFn f n).isSome with
    | true => rfl
    | false => exact absurd e (fFn_none.1 hq y hy)
theorem find_le : ∀ {l : List FI} {p : FI → Bool} {x0 x1 : FI}, l.Pairwise (fun a b => a.at_ < b.at_) → x0 ∈ l → p x0 = true → l.find? p = some x1 → x1.at_ ≤ x0.at_
  | y :: l, p, x0, x1, hs, hm, hp, hf => by
    obtain ⟨h1, h2⟩ := List.pairwise_cons.1 hs
    rw [List.find?_cons] at hf
    split at hf
    · cases hf
      rcases List.mem_cons.1 hm with rfl | hm
      · exact Int.le_refl _
      · have := h1 x0 hm; omega
    · rename_i hy
      rcases List.mem_cons.1 hm with rfl | hm
      · rw [hp] at hy; cases hy
      · exact find_le h2 hm hp hf
theorem clash_no {f : List FI} (hs : f.Pairwise (fun a b => a.at_ < b.at_)) (hr : ∀ x ∈ f, 0 ≤ x.at_ ∧ x.at_ < 65000) (h : ∀ (i : Nat) (hi : i + 1 < f.length), clAt f f[i] = false) : clash f = none := by
  unfold clash
  rw [Option.map_eq_none_iff, List.find?_eq_none]
  intro x hx hp
  rw [List.any_eq_true] at hp
  obtain ⟨y, hy, e⟩ := hp
  rw [Bool.and_eq_true, beq_iff_eq] at e
  obtain ⟨j, hj, rfl⟩ := List.getElem_of_mem hy
  by_cases hj2 : j + 1 < f.length
  · have := h j hj2
    unfold clAt at this
    rw [e.1, Bool.true_and] at this
    have h2 : (fFn f (IntKind.u16.wrap ((f[j]).at_ + 2))).isSome = true := fFn_has.2 ⟨x, hx, e.2.symm⟩
    rw [this] at h2; cases h2
  · obtain ⟨i, hi, rfl⟩ := List.getElem_of_mem hx
    have r := hr _ (List.getElem_mem hj)
    have ew : IntKind.u16.wrap ((f[j]).at_ + 2) = (f[j]).at_ + 2 := by simp [IntKind.wrap, IntKind.bits, IntKind.signed]; omega
    rw [ew] at e
    by_cases hij : i = j
    · subst hij; omega
    · have := List.pairwise_iff_getElem.1 hs i j hi hj (by omega)
      omega
theorem clash_first {f : List FI} (hs : f.Pairwise (fun a b => a.at_ < b.at_)) (hr : ∀ x ∈ f, 0 ≤ x.at_ ∧ x.at_ < 65000) {i : Nat} (hi : i + 1 < f.length) (h : ∀ (j : Nat) (hj : j < f.length), j < i → clAt f f[j] = false) (hc : clAt f f[i] = true) : clash f = some (IntKind.u16.wrap ((f[i]).at_ + 2)) := by
  have wr : ∀ (j : Nat) (hj : j < f.length), IntKind.u16.wrap ((f[j]).at_ + 2) = (f[j]).at_ + 2 := fun j hj => by
    have r := hr _ (List.getElem_mem hj)
    simp [IntKind.wrap, IntKind.bits, IntKind.signed]; omega
  unfold clAt at hc
  rw [Bool.and_eq_true] at hc
  obtain ⟨x0, hx0, e0⟩ := fFn_has.1 hc.2
  have hp0 : (f.any fun y => hasOperand y.op && (IntKind.u16.wrap (y.at_ + 2) == x0.at_)) = true := List.any_eq_true.2 ⟨f[i], List.getElem_mem _, by rw [hc.1, Bool.true_and, beq_iff_eq, e0]⟩
  unfold clash
  cases hf : f.find? (fun x => f.any (fun y => hasOperand y.op && (IntKind.u16.wrap (y.at_ + 2) == x.at_))) with
  | none => exact absurd hp0 ((List.find?_eq_none.1 hf) x0 hx0)
  | some x1 =>
    have le := find_le hs hx0 hp0 hf
    have hp1 := List.find?_some hf
    rw [List.any_eq_true] at hp1
    obtain ⟨y, hy, e⟩ := hp1
    rw [Bool.and_eq_true, beq_iff_eq] at e
    obtain ⟨j, hj, rfl⟩ := List.getElem_of_mem hy
    have e2 := e.2
    rw [wr j hj] at e2
    rw [wr i (by omega)] at e0
    have hx1 := List.mem_of_find?_eq_some hf
    have hji : j = i := by
      by_cases h1 : j = i
      · exact h1
      · exfalso
        by_cases h2 : j < i
        · have := h j hj h2
          unfold clAt at this
          rw [e.1, Bool.true_and] at this
          have h3 : (fFn f (IntKind.u16.wrap ((f[j]).at_ + 2))).isSome = true := fFn_has.2 ⟨x1, hx1, e.2.symm⟩
          rw [this] at h3; cases h3
        · have := List.pairwise_iff_getElem.1 hs i j (by omega) hj (by omega)
          omega
    subst hji
    rw [Option.map_some, e.2]
/-- What the reference's word answers. -/
def RWPost (w : World) (r : Except (Int × Int) FW) (e : Ending) (w' : World) : Prop := Below w.heap.size w w' ∧ match r with
  | .error (z, a) => e = .returned (.tuple #[.agg #[.int .u16 0, .slice none 0 0, .slice none 0 0], .int .i64 z, .int .u16 a])
  | .ok x => ∃ vi vc, e = .returned (.tuple #[.agg #[.int .u16 x.at_, vi, vc], .int .i64 0, .int .u16 0]) ∧ RowJ w' w.heap.size vi x.instrs ∧ RowU w' w.heap.size vc x.calls ∧ ∀ k, vi.ownBlock = some k → vc.ownBlock ≠ some k
/-- The addresses that are taken. -/
def takenOf (ws : List FW) : List Int := ws.flatMap fun x => x.instrs.map FI.at_
theorem taken_iff {ws : List FW} {a : Int} : a ∈ takenOf ws ↔ ∃ i, ∃ h : i < ws.length, (fFn (ws[i]).instrs a).isSome = true := by
  unfold takenOf
  rw [List.mem_flatMap]
  constructor
  · rintro ⟨x, hx, hm⟩
    obtain ⟨i, hi, rfl⟩ := List.getElem_of_mem hx
    obtain ⟨y, hy, e⟩ := List.mem_map.1 hm
    exact ⟨i, hi, fFn_has.2 ⟨y, hy, e⟩⟩
  · rintro ⟨i, hi, h⟩
    obtain ⟨y, hy, e⟩ := fFn_has.1 h
    exact ⟨_, List.getElem_mem hi, List.mem_map.2 ⟨y, hy, e⟩⟩
theorem infoRW : (Tryd.prog.info? 76).map (fun i => (i.zero, i.size, i.bytes)) = some (some (.agg #[.int .u16 0, .slice none 0 0, .slice none 0 0]), 3, 56) := by kernel_rfl

theorem RowJ.at_ {w : World} {base n c : Nat} {A : Option Addr} {l : List FI} (h : RowJ w base (.slice A n c) l) {i : Nat} (hi : i < l.length) : ∃ g, A = some ⟨g, 0, none⟩ ∧ n = l.length ∧ n ≤ c ∧
    (w.cell? ⟨g, i * 5, none⟩ = some (.int .u16 l[i].at_) ∧ w.cell? ⟨g, i * 5 + 1, none⟩ = some (.int .i64 l[i].op) ∧ w.cell? ⟨g, i * 5 + 2, none⟩ = some (.int .u16 l[i].operand) ∧ w.cell? ⟨g, i * 5 + 3, none⟩ = some (.int .u16 l[i].word) ∧ w.cell? ⟨g, i * 5 + 4, none⟩ = some (.int .u16 l[i].next)) ∧
    (w.frozen? ⟨g, i * 5, none⟩ = false ∧ w.frozen? ⟨g, i * 5 + 1, none⟩ = false ∧ w.frozen? ⟨g, i * 5 + 2, none⟩ = false ∧ w.frozen? ⟨g, i * 5 + 3, none⟩ = false ∧ w.frozen? ⟨g, i * 5 + 4, none⟩ = false) := by
  rcases h.2 with ⟨e, hn⟩ | ⟨g, cap, cur, e, hg, hh, hk, _⟩
  · omega
  · injection e with e1 e2 e3
    subst e1 e2 e3
    have key : ∀ k u, k < 5 → (l[i]).cells[k]? = some u → w.cell? ⟨g, i * 5 + k, none⟩ = some u := fun k u hk hu => by
      have := h.cells (g := g) rfl (i * 5 + k) u (by rw [flat5 l i k hi hk]; exact hu)
      rwa [add0] at this
    exact ⟨g, rfl, rfl, hk, ⟨key 0 _ (by decide) rfl, key 1 _ (by decide) rfl, key 2 _ (by decide) rfl, key 3 _ (by decide) rfl, key 4 _ (by decide) rfl⟩, free_of hh _, free_of hh _, free_of hh _, free_of hh _, free_of hh _⟩
theorem wpList_append_any {P : Program} {w : World} {ops : Array Oper} {rest : List Oper} {o : Oper} {a : Act} {Q : Exit → Act → World → Prop} (hgd : o.guard = none) (s x : Operand) (t : TypeId)
    (ho : o.op = .call { callee := .builtin .append, args := #[s, x], argTypes := #[t, t] })
    (base : Nat) (e : TypeId) (i : TypeInfo) (z : Value) (size bytes : Nat) (ht : P.underlying t = some (.slice e)) (hi : P.info? e = some i) (hz : i.zero = some z)
    (hsize : i.size = size) (hby : i.bytes = bytes) (hzs : z.cells.size = size) (hsz : 0 < size)
    (g0 n c0 : Nat) (xs : List Value) (hs : a.eval s = .slice (some ⟨g0, 0, none⟩) n c0) (hown : w.ownsRow base e size (.slice (some ⟨g0, 0, none⟩) n c0) n xs)
    (A : Option Addr) (m c : Nat) (news : List Value) (hx : a.eval x = .slice A m c) (hnil : A = none → c = 0 ∧ m = 0) (hl : news.length = m * size) (hnews : ∀ ad, A = some ad → ∀ j u, news[j]? = some u → w.cell? (ad.add j) = some u) (h1 : ∀ u ∈ news, u.oneCell' = true)
    (h63 : n + m ≤ maxLen) (hbytes : (n + m) * bytes ≤ 140737488355328) (hbase : base ≤ w.heap.size) (r : Nat) (hr : n + m = r)
    (h : ∀ g cap w', w'.ownsRow base e size (.slice (some ⟨g, 0, none⟩) r cap) r (xs ++ news) → Upd w w' (fun k => k = g0) → (g = g0 ∨ g = w.heap.size) → wpList P ops Q rest (a.put o.dst (.slice (some ⟨g, 0, none⟩) r cap)) w') :
    wpList P ops Q (o :: rest) a w := by
  refine wpList_plain hgd fun K hK => ?_
  have key := step_append_own (P := P) (w := w) (ops := ops) (K := K) (Q := Q) (E := True) hgd s x t ho base e i z size bytes ht hi hz hsize hby hzs hsz g0 n c0 xs hs hown A m c news hx hnil hl hnews h1 h63 hbytes hbase r hr (fun g cap w' h2 h3 h4 => hK _ _ (h g cap w' h2 h3 h4))
  rwa [if_pos (by simp [Region.wanted, hgd])] at key
theorem tail_w3 {P : Program} {fn : Func} {Q : Ending → World → Prop} {act : Act} {w W : World} {b : Nat} {u0 u1 u2 v0 v1 v2 : Value} (hz : W.heap[b]? = some (.cells #[v0, v1, v2] 76 (0, 0))) (hb : w.heap.size ≤ b) (hB : Below w.heap.size w W)
    (k : ∀ V, V.heap[b]? = some (.cells #[u0, u1, u2] 76 (0, 0)) → Upd W V (fun i => i = b) → Below w.heap.size w V → bodyPost P fn Q Exit.ret act V) :
    bodyPost P fn Q Exit.ret act (World.setCell (World.setCell (World.setCell W ⟨b, 0, none⟩ u0) ⟨b, 1, none⟩ u1) ⟨b, 2, none⟩ u2) :=
  k _ (heap_set_cell (heap_set_cell (heap_set_cell hz 0 u0) 1 u1) 2 u2) ((((Upd.refl W (fun i => i = b)).setCell (p := ⟨b, 0, none⟩) (fun _ => rfl) _).setCell (p := ⟨b, 1, none⟩) (fun _ => rfl) _).setCell (p := ⟨b, 2, none⟩) (fun _ => rfl) _) (below_set1 (below_set1 (below_set1 hB hb _ _) hb _ _) hb _ _)

theorem set5_far {W : World} {g Y o0 o1 o2 o3 o4 : Nat} {v0 v1 v2 v3 v4 : Value} (h : g ≠ Y) : (World.setCell (World.setCell (World.setCell (World.setCell (World.setCell W ⟨g, o0, none⟩ v0) ⟨g, o1, none⟩ v1) ⟨g, o2, none⟩ v2) ⟨g, o3, none⟩ v3) ⟨g, o4, none⟩ v4).heap[Y]? = W.heap[Y]? := by
  rw [heap_set_far h.symm, heap_set_far h.symm, heap_set_far h.symm, heap_set_far h.symm, heap_set_far h.symm]
theorem set5_upd {W W0 : World} {S : Nat → Prop} (hW : Upd W0 W S) {g o0 o1 o2 o3 o4 : Nat} {v0 v1 v2 v3 v4 : Value} (h : S g) : Upd W0 (World.setCell (World.setCell (World.setCell (World.setCell (World.setCell W ⟨g, o0, none⟩ v0) ⟨g, o1, none⟩ v1) ⟨g, o2, none⟩ v2) ⟨g, o3, none⟩ v3) ⟨g, o4, none⟩ v4) S :=
  ((((hW.setCell (p := ⟨g, o0, none⟩) (fun _ => h) v0).setCell (p := ⟨g, o1, none⟩) (fun _ => h) v1).setCell (p := ⟨g, o2, none⟩) (fun _ => h) v2).setCell (p := ⟨g, o3, none⟩) (fun _ => h) v3).setCell (p := ⟨g, o4, none⟩) (fun _ => h) v4
/-- An instruction of the word is written. -/
theorem RWS.set5 {w W W1 : World} {R X : Nat} {cw : Int} {vo vc : Value} {o : List Int} {f f' : List FI} {cs : List Int} {g n c i Y : Nat} {a op p d m : Int} {y : Obj} (h : RWS w W R X cw vo (.slice (some ⟨g, 0, none⟩) n c) vc o f cs) (hW : W1 = W ∨ W1 = W.drew) (hi : i < f.length) (hf : f.set i ⟨a, op, p, d, m⟩ = f') (hY : g ≠ Y) (hy : W.heap[Y]? = some y) :
    RWS w (World.setCell (World.setCell (World.setCell (World.setCell (World.setCell W1 ⟨g, i * 5, none⟩ (.int .u16 a)) ⟨g, i * 5 + 1, none⟩ (.int .i64 op)) ⟨g, i * 5 + 2, none⟩ (.int .u16 p)) ⟨g, i * 5 + 3, none⟩ (.int .u16 d)) ⟨g, i * 5 + 4, none⟩ (.int .u16 m)) R X cw vo (.slice (some ⟨g, 0, none⟩) n c) vc o f' cs ∧
    (World.setCell (World.setCell (World.setCell (World.setCell (World.setCell W1 ⟨g, i * 5, none⟩ (.int .u16 a)) ⟨g, i * 5 + 1, none⟩ (.int .i64 op)) ⟨g, i * 5 + 2, none⟩ (.int .u16 p)) ⟨g, i * 5 + 3, none⟩ (.int .u16 d)) ⟨g, i * 5 + 4, none⟩ (.int .u16 m)).heap[Y]? = some y := by
  subst hf
  have hu : Upd W W1 (fun k => some k = (Value.slice (some ⟨g, 0, none⟩) n c).ownBlock) := by
    rcases hW with rfl | rfl
    · exact Upd.refl _ _
    · exact (Upd.refl _ _).drew
  have hr : RowJ W1 w.heap.size (.slice (some ⟨g, 0, none⟩) n c) f := by
    rcases hW with rfl | rfl
    · exact h.ri
    · exact h.ri
  have hy1 : W1.heap[Y]? = some y := by
    rcases hW with rfl | rfl
    · exact hy
    · exact hy
  exact ⟨h.inI (set5_upd hu rfl) (own_setJ (x := ⟨a, op, p, d, m⟩) hr hi), (set5_far hY).trans hy1⟩

theorem ins_len_le (x : Int) : ∀ l : List Int, (ins x l).length ≤ l.length + 1
  | [] => by simp [ins]
  | y :: l => by
    unfold ins
    have := ins_len_le x l
    split
    · simp
    · split <;> simp <;> omega
theorem push_len_le (f : List FI) : ∀ l o : List Int, (l.foldl (push f) o).length ≤ o.length + l.length
  | [], o => by simp
  | y :: l, o => by
    have h1 := push_len_le f l (push f o y)
    have h2 : (push f o y).length ≤ o.length + 1 := by
      unfold push
      split
      · omega
      · exact ins_len_le y o
    simp only [List.foldl_cons, List.length_cons]
    omega

set_option maxRecDepth 100000 in
set_option maxHeartbeats 8000000 in
theorem rword_any (w : World) (A : Option Addr) (c : Nat) (code : List Int) (cw : Int) (B : Option Addr) (cb : Nat) (ahead : List FW) (hC : CodeIn w A code) (h0 : 0 ≤ cw) (h1 : cw < 65536) (hF : FWin w B ahead) (hS : ∀ x ∈ ahead, x.instrs.Pairwise (fun a b => a.at_ < b.at_)) (hcl : code.length ≤ 16384) (hla : ahead.length ≤ 1000000)
    (k : Nat) (r : Except (Int × Int) FW) (hr : wordOf k code (takenOf ahead) cw = some r) :
    Calls Tryd.prog 38 #[.slice A code.length c, .int .u16 cw, .slice B ahead.length cb] w fun e w' => RWPost w r e w' := by
  have HC := Lib.hid hC
  have HF := Lib.hid hF
  have HSA := Lib.hid hS
  have HR := Lib.hid hr
  have CE : Hid (∀ W, Below w.heap.size w W → Calls Tryd.prog 59 #[.slice A code.length c, .int .u16 cw] W fun e w' => e = .returned (.tuple #[.int .u16 ((cellOf code cw).getD 0), .bool (cellOf code cw).isSome]) ∧ Quiet W w') := fun W hW => rcell_any W A c code cw (hC.below hW) h0 h1
  have LO : Hid (∀ W a, Below w.heap.size w W → 0 ≤ a → a < 65536 → Calls Tryd.prog 61 #[.slice A code.length c, .int .u16 a] W fun e w' => e = .returned (.tuple #[(lookAt code a).1.val, .int .i64 (lookAt code a).2]) ∧ Below W.heap.size W w') := fun W a hW ha hb => rlook_any W A c code a (hC.below hW) ha hb
  obtain ⟨nc, hnc⟩ : ∃ n, n = code.length := ⟨_, rfl⟩
  obtain ⟨na, hna⟩ : ∃ n, n = ahead.length := ⟨_, rfl⟩
  rw [← hnc] at CE LO hcl ⊢
  rw [← hna]
  rw [← hna] at hla
  have HNC := Lib.hid hnc
  have HNA := Lib.hid hna
  have BYT := Lib.hid hC.byte
  clear hC hF hS hr hnc hna
  have R0 := Lib.hid (heap_alloc_at w (.cells #[.int .u16 0, .slice none 0 0, .slice none 0 0] 76))
  have b0 := Lib.hid (b_alloc (Below.refl w.heap.size w) (.cells #[.int .u16 0, .slice none 0 0, .slice none 0 0] 76))
  go_enter Tryd.func38, Tryd.ntmps38
  go_wp2_with (fail)
  refine (CE.out _ b0.out).mono ?_
  rintro e W1 ⟨rfl, nq, rfl⟩
  by_cases hc1 : cellOf code cw = some 1
  · have HW : Hid (∃ r', wl code (takenOf ahead) k [IntKind.u16.wrap (cw + 2)] [] [] = some r' ∧ r = endOf cw r') := by
      have := HR.out
      unfold wordOf at this
      rw [if_pos hc1] at this
      obtain ⟨r', e1, e2⟩ := Option.map_eq_some_iff.1 this
      exact ⟨r', e1, e2.symm⟩
    rw [hc1]
    have g1 : (some (1 : Int)).getD 0 = 1 := rfl
    have g2 : (some (1 : Int)).isSome = true := rfl
    rw [g1, g2]
    go_wp2_with (fail)
    have START : Hid (RWS w (World.alloc (World.alloc (World.drewN (w.alloc (.cells #[.int .u16 0, .slice none 0 0, .slice none 0 0] 76)) nq) (.cells #[.int .u16 cw, .slice none 0 0, .slice none 0 0] 76)) (.cells #[.int .u16 (IntKind.u16.wrap (cw + 2))] 23)) w.heap.size (w.heap.size + 1) cw (.slice (some ⟨w.heap.size + 1 + 1, 0, none⟩) 1 1) (.slice none 0 0) (.slice none 0 0) [IntKind.u16.wrap (cw + 2)] [] []) := by
      have b1 := b_drewN b0.out nq
      have q1 : (World.drewN (w.alloc (.cells #[.int .u16 0, .slice none 0 0, .slice none 0 0] 76)) nq).heap.size = w.heap.size + 1 := by simp
      have q2 : (World.alloc (World.drewN (w.alloc (.cells #[.int .u16 0, .slice none 0 0, .slice none 0 0] 76)) nq) (.cells #[.int .u16 cw, .slice none 0 0, .slice none 0 0] 76)).heap.size = w.heap.size + 1 + 1 := by simp
      have ro := RowU.lit w (World.alloc (World.drewN (w.alloc (.cells #[.int .u16 0, .slice none 0 0, .slice none 0 0] 76)) nq) (.cells #[.int .u16 cw, .slice none 0 0, .slice none 0 0] 76)) (by omega) (IntKind.u16.wrap (cw + 2)) [] (by simp)
      rw [q2] at ro
      refine ⟨b_alloc (b_alloc b1 _) _, ⟨Nat.le_refl _, by omega, by omega⟩, heap_alloc_old (heap_alloc_old R0.out), heap_alloc_old (alloc_at _ q1), ro, World.ownsRow_nil _ _ _ _, RowU.nil _ _, fun k hk => ?_, (fun k hk => by cases hk), (fun k hk => by cases hk)⟩
      have e : w.heap.size + 1 + 1 = k := by
        have hk' : some (w.heap.size + 1 + 1) = some k := hk
        exact Option.some.inj hk'
      subst e
      exact ⟨by omega, by omega, (fun e => by cases e), (fun e => by cases e)⟩
    obtain ⟨r', hw1, hw2⟩ := HW.out
    have HWL := Lib.hid hw1
    have HRE := Lib.hid hw2
    clear hw1 hw2 HW HR
    have INV0 : Hid (WInv code [IntKind.u16.wrap (cw + 2)] [] []) := WInv.start _ (wrap16_range _)
    go_wp2_with (fail)
    generalize hX : w.heap.size + 1 = X at *
    clear hX
    generalize hV : World.alloc (World.alloc (World.drewN (w.alloc (.cells #[.int .u16 0, .slice none 0 0, .slice none 0 0] 76)) nq) (.cells #[.int .u16 cw, .slice none 0 0, .slice none 0 0] 76)) (.cells #[.int .u16 (IntKind.u16.wrap (cw + 2))] 23) = V0 at *
    clear hV g1 g2 hc1
    go_loopg [12] k (fun kq vo W => ∃ (o : List Int) (f : List FI) (cs : List Int) (vi vc : Value), Hid (wl code (takenOf ahead) kq o f cs = some r') ∧ Hid (WInv code o f cs) ∧ Hid (RWS w W w.heap.size X cw vo vi vc o f cs))
    case atStart => exact ⟨_, _, _, _, _, HWL, INV0, START⟩
    case round =>
      clear START HWL INV0
      obtain ⟨o, f, cs, vi, vc, HL, HI, HS⟩ := hrel
      cases gk with
      | zero => exact absurd HL.out (by simp [wl])
      | succ k1 =>
        cases o with
        | nil =>
          have HOK : Hid (r' = .ok (f, cs)) := by
            have := HL.out
            unfold wl at this
            exact (Option.some.inj this).symm
          obtain ⟨Ao, co, hvo⟩ := HS.out.ro.slice
          have hvo : u12 = .slice Ao 0 co := hvo
          subst hvo
          obtain ⟨Ai, ci, hvi⟩ := ownsRow_slice HS.out.ri
          obtain ⟨nf, hnf⟩ : ∃ n, n = f.length := ⟨_, rfl⟩
          have HNF := Lib.hid hnf
          rw [← hnf] at hvi
          subst hvi
          have hnf2 : nf ≤ 16384 := by
            have := HI.out.lens.1
            have := HNC.out
            omega
          clear hnf HL
          obtain ⟨⟨p0, p1, p2⟩, z0, z1, z2⟩ := cells3 HS.out.box
          obtain ⟨wq, hwq⟩ : ∃ x, x = wr := ⟨_, rfl⟩
          subst hwq
          go_wp2_with (fail)
          go_loopw [21] (fun iv wx => ∃ j : Nat, j ≤ nf ∧ iv = .int .i64 (j : Int) ∧ Hid (RWS w wx w.heap.size X cw (.slice Ao 0 co) (.slice Ai nf ci) vc [] f cs) ∧ Hid (∀ (i : Nat) (hi : i < f.length), i < j → clAt f f[i] = false)) (fun iv _ => nf - (intOf iv).toNat)
          case atStart => exact ⟨0, Nat.zero_le _, rfl, HS, Lib.hid (fun i hi h => absurd h (Nat.not_lt_zero _))⟩
          case round =>
            clear HS p0 p1 p2 z0 z1 z2
            obtain ⟨j, hj, rfl, S7, HNO⟩ := hrel
            obtain ⟨⟨p0, p1, p2⟩, z0, z1, z2⟩ := cells3 S7.out.box
            by_cases hlt : j + 1 < nf
            · have hjl : j < f.length := by rw [← HNF.out]; omega
              obtain ⟨gj, rfl, -, -, ⟨c0, c1, c2, c3, c4⟩, -⟩ := S7.out.ri.at_ hjl
              obtain ⟨x, hx⟩ : ∃ x, x = f[j] := ⟨_, rfl⟩
              rw [← hx] at c0 c1 c2 c3 c4
              have HXE := Lib.hid hx
              clear hx
              obtain ⟨xa, xo, xp, xw, xn⟩ := x
              dsimp only at c0 c1 c2 c3 c4
              have g1 : (j : Int) + 1 < (nf : Int) := by omega
              have g2 : (j : Int) < (nf : Int) := by omega
              have OP : Hid (∀ W, Calls Tryd.prog 64 #[.int .i64 xo] W fun e w' => e = .returned (.bool (hasOperand xo)) ∧ w' = W) := fun W => roper_any W xo
              have TH : Hid (∀ nq, Calls Tryd.prog 60 #[.slice (some ⟨gj, 0, none⟩) nf ci, .int .u16 (IntKind.u16.wrap (xa + 2))] (wr.drewN nq) fun e w' => e = .returned (.bool (fFn f (IntKind.u16.wrap (xa + 2))).isSome) ∧ w' = wr.drewN nq) := fun nq => by
                have h1 := (S7.out.bel (b_drewN (Below.refl _ _) nq)).ri
                unfold RowJ at h1
                have h2 : f.length ≤ 2000000 := by rw [← HNF.out]; omega
                exact rthere_any (wr.drewN nq) (some ⟨gj, 0, none⟩) nf ci f _ HNF.out (insIn_of_row h1 h2) HI.out.fs
              cases hb : hasOperand xo with
              | false =>
                rw [hb] at OP
                have CL : Hid (clAt f ⟨xa, xo, xp, xw, xn⟩ = false) := by
                  show clAt _ _ = _
                  unfold clAt
                  show (hasOperand xo && _) = false
                  rw [hb]; rfl
                clear hb
                have HNO2 : Hid (∀ (i : Nat) (hi : i < f.length), i < j + 1 → clAt f f[i] = false) := fun i hi h => by
                  by_cases e : i = j
                  · subst e; rw [← HXE.out]; exact CL.out
                  · exact HNO.out i hi (by omega)
                go_wp2_with (fail)
                go_big_quiet (first | (go_at_call 64; refine Calls.quiet_of_same (OP.out _)) | (go_at_call 60; refine Calls.quiet_of_same (TH.out _)))
                go_wp2_with (fail)
                go_roundw
                case rel => exact ⟨j + 1, by omega, by go_num, Lib.hid (S7.out.bel (b_drewN (Below.refl _ _) _)), HNO2⟩
                case measure => first | (simp [intOf]; done) | (simp [intOf]; omega)
              | true =>
                rw [hb] at OP
                cases hq : (fFn f (IntKind.u16.wrap (xa + 2))).isSome with
                | false =>
                  rw [hq] at TH
                  have CL : Hid (clAt f ⟨xa, xo, xp, xw, xn⟩ = false) := by
                    show clAt _ _ = _
                    unfold clAt
                    show (hasOperand xo && (fFn f (IntKind.u16.wrap (xa + 2))).isSome) = false
                    rw [hq, hb]; rfl
                  clear hb hq
                  have HNO2 : Hid (∀ (i : Nat) (hi : i < f.length), i < j + 1 → clAt f f[i] = false) := fun i hi h => by
                    by_cases e : i = j
                    · subst e; rw [← HXE.out]; exact CL.out
                    · exact HNO.out i hi (by omega)
                  go_wp2_with (fail)
                  go_big_quiet (first | (go_at_call 64; refine Calls.quiet_of_same (OP.out _)) | (go_at_call 60; refine Calls.quiet_of_same (TH.out _)))
                  go_wp2_with (fail)
                  go_roundw
                  case rel => exact ⟨j + 1, by omega, by go_num, Lib.hid (S7.out.bel (b_drewN (Below.refl _ _) _)), HNO2⟩
                  case measure => first | (simp [intOf]; done) | (simp [intOf]; omega)
                | true =>
                  rw [hq] at TH
                  have CL : Hid (clAt f ⟨xa, xo, xp, xw, xn⟩ = true) := by
                    show clAt _ _ = _
                    unfold clAt
                    show (hasOperand xo && (fFn f (IntKind.u16.wrap (xa + 2))).isSome) = true
                    rw [hq, hb]; rfl
                  clear hb hq
                  go_wp2_with (fail)
                  go_big_quiet (first | (go_at_call 64; refine Calls.quiet_of_same (OP.out _)) | (go_at_call 60; refine Calls.quiet_of_same (TH.out _)))
                  go_wp2_with (fail)
                  have ER : Hid (r = .error (160, IntKind.u16.wrap (xa + 2))) := by
                    have h1 := clash_first HI.out.fs (fun y hy => by have := HI.out.fin y hy; have := HNC.out; omega) (i := j) (by rw [← HNF.out]; exact hlt) HNO.out (by rw [← HXE.out]; exact CL.out)
                    show r = _
                    rw [HRE.out, HOK.out]
                    unfold endOf
                    dsimp only
                    rw [h1, ← HXE.out]
                  obtain ⟨V, hV⟩ : ∃ x, x = wr.drewN nq := ⟨_, rfl⟩
                  have S8 := Lib.hid (S7.out.bel (b_drewN (Below.refl _ _) nq))
                  have d0 : V.cell? ⟨gj, j * 5, none⟩ = some (.int .u16 xa) := by rw [hV]; exact c0
                  rw [← hV] at S8 ⊢
                  clear hV p0 p1 p2 z0 z1 z2 c0 c1 c2 c3 c4 TH OP S7
                  obtain ⟨⟨p0, p1, p2⟩, z0, z1, z2⟩ := cells3 S8.out.box
                  obtain ⟨⟨q0, q1, q2⟩, y0, y1, y2⟩ := cells3 S8.out.res
                  have nRX : w.heap.size ≠ X := S8.out.lo.2.2
                  have nRg : gj ≠ w.heap.size := (S8.out.dI gj rfl).1
                  obtain ⟨W3, hW3⟩ : ∃ x, x = World.setCell (World.setCell (World.setCell V.drew ⟨w.heap.size, 0, none⟩ (.int .u16 0)) ⟨w.heap.size, 1, none⟩ (.slice none 0 0)) ⟨w.heap.size, 2, none⟩ (.slice none 0 0) := ⟨_, rfl⟩
                  have farX : (World.setCell (World.setCell (World.setCell V ⟨w.heap.size, 0, none⟩ (.int .u16 0)) ⟨w.heap.size, 1, none⟩ (.slice none 0 0)) ⟨w.heap.size, 2, none⟩ (.slice none 0 0)).heap[X]? = V.heap[X]? := by rw [heap_set_far nRX.symm, heap_set_far nRX.symm, heap_set_far nRX.symm]
                  have e1 := cell_of (farX.trans S8.out.box) 1
                  clear hW3 farX
                  go_region
                  all_goals
                    go_wp2_with (fail)
                    refine tail_w3 (w := w) (W := V.drew) S8.out.res (Nat.le_refl _) (show Below w.heap.size w V.drew from b_drewN S8.out.below 1) ?_
                    intro V2 hV hU hB
                    obtain ⟨⟨m0, m1, m2⟩, _⟩ := cells3 hV
                    refine bodyPost_ret (v := .tuple #[.agg #[.int .u16 0, .slice none 0 0, .slice none 0 0], .int .i64 160, .int .u16 (IntKind.u16.wrap (xa + 2))]) (by simp [results, Tryd.results38, go_sem, m0, m1, m2]) rfl ?_
                    rw [ER.out]
                    exact ⟨hB, rfl⟩
            · have g1 : ¬ (j : Int) + 1 < (nf : Int) := by omega
              have ER : Hid (r = .ok ⟨cw, f, cs⟩) := by
                have h1 := clash_no HI.out.fs (fun y hy => by have := HI.out.fin y hy; have := HNC.out; omega) (fun i hi => HNO.out i (by omega) (by have := HNF.out; omega))
                show r = _
                rw [HRE.out, HOK.out]
                unfold endOf
                dsimp only
                rw [h1]
              obtain ⟨Ac, cc, rfl⟩ := S7.out.rc.slice
              obtain ⟨⟨q0, q1, q2⟩, y0, y1, y2⟩ := cells3 S7.out.res
              go_wp2_with (fail)
              refine tail_w3 (w := w) S7.out.res (Nat.le_refl _) S7.out.below ?_
              intro V hV hU hB
              obtain ⟨⟨m0, m1, m2⟩, _⟩ := cells3 hV
              refine bodyPost_ret (v := .tuple #[.agg #[.int .u16 cw, .slice Ai nf ci, .slice Ac cs.length cc], .int .i64 0, .int .u16 0]) (by simp [results, Tryd.results38, go_sem, m0, m1, m2]) rfl ?_
              rw [ER.out]
              refine ⟨hB, _, _, rfl, ownsRow_keep S7.out.ri (fun k hk => hU.block k (ownsRow_own S7.out.ri k hk).1 (S7.out.dI k hk).1), S7.out.rc.move (fun k hk => hU.block k (ownsRow_own S7.out.rc k hk).1 (S7.out.dC k hk).1), fun k hk => (S7.out.dI k hk).2.2⟩
        | cons a o' =>
          obtain ⟨Ao, co, hvo⟩ := HS.out.ro.slice
          have hal := HI.out.orange a List.mem_cons_self
          have holen : (a :: o').length = o'.length + 1 := rfl
          obtain ⟨no, hno⟩ : ∃ n, n = o'.length := ⟨_, rfl⟩
          have HNO := Lib.hid hno
          rw [holen, ← hno] at hvo
          subst hvo
          obtain ⟨go, rfl, c0⟩ := HS.out.ro.at_ (i := 0) (by simp)
          have c0 : wr.cell? ⟨go, 0, none⟩ = some (.int .u16 a) := c0
          have hnol : no ≤ 65536 := by
            have := rise_len (a :: o') 0 65536 HI.out.os HI.out.orange
            simp only [List.length_cons] at this
            omega
          clear hno holen
          have RO := Lib.hid (show wr.ownsRow w.heap.size 23 1 (.slice (some ⟨go, 0, none⟩) (no + 1) co) (no + 1) ((a :: o').map (Value.int .u16)) by have := HS.out.ro; unfold RowU at this; rw [show (a :: o').length = no + 1 by rw [HNO.out]; rfl] at this; exact this)
          have hcap : no + 1 ≤ co := (ownsRow_some RO.out).2.2
          have OWN : Hid ((wr.alloc (.cells #[] 23)).ownsRow w.heap.size 23 1 (.slice (some ⟨wr.heap.size, 0, none⟩) 0 0) 0 []) := ⟨rfl, .inr ⟨wr.heap.size, 0, #[], rfl, HS.out.below.size, heap_alloc_at _ _, Nat.le_refl _, by simp [maxLen], rfl, rfl⟩⟩
          have bal := Lib.hid (b_alloc (Below.refl wr.heap.size wr) (.cells #[] 23))
          have NEWS : Hid (∀ ad, (if co = 1 then some (⟨go, 0, none⟩ : Addr) else some ⟨go, 1, none⟩) = some ad → ∀ j u, (o'.map (Value.int .u16))[j]? = some u → (wr.alloc (.cells #[] 23)).cell? (ad.add j) = some u) := fun ad e j u hj => by
            have hjl : j < o'.length := by simpa using (List.getElem?_eq_some_iff.1 hj).1
            by_cases hc1 : co = 1
            · have := HNO.out; omega
            · rw [if_neg hc1] at e
              cases e
              have h2 := RO.out.cells (g := go) rfl (j + 1) u (by rw [List.map_cons, List.getElem?_cons_succ]; exact hj)
              rw [add0] at h2
              rw [show (⟨go, 1, none⟩ : Addr).add j = ⟨go, j + 1, none⟩ by unfold Addr.add; simp [Nat.add_comm]]
              exact keep_cell h2 bal.out
          have NIL : Hid ((if co = 1 then some (⟨go, 0, none⟩ : Addr) else some ⟨go, 1, none⟩) = none → co - 1 = 0 ∧ no = 0) := fun e => by split at e <;> cases e
          have ONE : Hid (∀ u ∈ o'.map (Value.int .u16), u.oneCell' = true) := fun u hu => by
            obtain ⟨y, _, rfl⟩ := List.mem_map.1 hu
            rfl
          have LEN : Hid ((o'.map (Value.int .u16)).length = no * 1) := by show _ = _; rw [List.length_map, HNO.out, Nat.mul_one]
          have FIN : Hid (∀ (g cap : Nat) (W2 : World), W2.ownsRow w.heap.size 23 1 (.slice (some ⟨g, 0, none⟩) no cap) no ([] ++ o'.map (Value.int .u16)) → Upd (wr.alloc (.cells #[] 23)) W2 (fun k => k = wr.heap.size) → (g = wr.heap.size ∨ g = (wr.alloc (.cells #[] 23)).heap.size) → RWS w W2 w.heap.size X cw (.slice (some ⟨g, 0, none⟩) no cap) vi vc o' f cs) := fun g cap W2 ho hu hat => by
            refine HS.out.setO ⟨hu.os.trans rfl, hu.tape.trans rfl, hu.output.trans rfl, by have := hu.size; simp at this; omega, fun b hb _ => (hu.block b (by simp; omega) (by omega)).trans (Below.heap_alloc _ _ _ hb)⟩ ?_ (.inr ⟨g, rfl, ?_⟩)
            · unfold RowU
              rw [← HNO.out]
              exact ho
            · rcases hat with h | h
              · omega
              · simp at h; omega
          have n1 : (0 : Int) < (no : Int) + 1 := by omega
          have n2 : (1 : Int) ≤ (no : Int) + 1 := by omega
          have hbs := HS.out.below.size
          obtain ⟨i0, hi0, hz0, hz1, hz2⟩ := info_parts infoU16
          go_upto_region 8 with fail
          go_cut [12] from 41 to 141 (fun vn wx => ∃ g cap, vn = .slice (some ⟨g, 0, none⟩) no cap ∧ Hid (RWS w wx w.heap.size X cw vn vi vc o' f cs))
          case first =>
            go_wp2_with (first
              | (at_builtin; refine wpList_append_any rfl _ _ 51 rfl w.heap.size 23 i0 _ 1 2 Tryd.underlying51 hi0 hz0 hz1 hz2 rfl (by decide) wr.heap.size 0 0 [] rfl OWN.out (if co = 1 then some ⟨go, 0, none⟩ else some ⟨go, 1, none⟩) no (co - 1) (o'.map (Value.int .u16)) rfl NIL.out LEN.out NEWS.out ONE.out (by simp only [maxLen]; omega) (by omega) (by simp; omega) no (by omega) ?_; intro g cap W2 ho hu hat; have S2 := Lib.hid (FIN.out g cap W2 ho hu hat); clear ho hu hat))
            all_goals
              go_meet
              exact ⟨_, _, rfl, S2⟩
          case rest =>
            obtain ⟨g, cap, rfl, S2⟩ := hcut
            clear RO OWN bal NEWS NIL ONE LEN FIN HS c0
            have HFa := Lib.hid (HF.out.below S2.out.below)
            obtain ⟨wq, hwq⟩ : ∃ x, x = wc := ⟨_, rfl⟩
            subst hwq
            go_wp2_with (fail)
            go_loopw [14] (fun iv wr => ∃ j : Nat, j ≤ na ∧ iv = .int .i64 (j : Int) ∧ wq = wr ∧ Hid (∀ (i : Nat) (hi : i < ahead.length), i < j → (fFn (ahead[i]).instrs a).isSome = false)) (fun iv _ => na - (intOf iv).toNat)
            case atStart => exact ⟨0, Nat.zero_le _, rfl, rfl, Lib.hid (fun i hi h => absurd h (Nat.not_lt_zero _))⟩
            case round =>
              obtain ⟨j, hj, rfl, hwe, hno⟩ := hrel
              subst hwe
              by_cases hlt : j < na
              · have hjl : j < ahead.length := by rw [← HNA.out]; exact hlt
                obtain ⟨bb, off, ia, ic, ca, cc, rfl, wi⟩ := HFa.out j hjl
                have c1 := wi.c1
                obtain ⟨m, hm⟩ : ∃ m, m = (ahead[j]).instrs.length := ⟨_, rfl⟩
                rw [← hm] at c1
                have TH := Lib.hid (rthere_any wq ia m ic (ahead[j]).instrs a hm wi.ins (HSA.out _ (List.getElem_mem hjl)))
                obtain ⟨q, hq⟩ : ∃ q, q = (fFn (ahead[j]).instrs a).isSome := ⟨_, rfl⟩
                rw [← hq] at TH
                have HQ := Lib.hid hq
                have hjn : (j : Int) < (na : Int) := by omega
                clear hm hq wi
                go_wp2_with (fail)
                refine TH.out.mono ?_
                rintro e w' ⟨rfl, rfl⟩
                cases q with
                | true =>
                  have ER : Hid (r = .error (160, a)) := by
                    have h1 := HL.out
                    unfold wl at h1
                    rw [if_pos (taken_iff.2 ⟨j, hjl, HQ.out.symm⟩)] at h1
                    have h2 := (Option.some.inj h1).symm
                    show r = _
                    rw [HRE.out, h2]; rfl
                  obtain ⟨⟨p0, p1, p2⟩, z0, z1, z2⟩ := cells3 S2.out.res
                  go_wp2_with (fail)
                  refine tail_w3 (w := w) S2.out.res (Nat.le_refl _) S2.out.below ?_
                  intro V hV hU hB
                  obtain ⟨⟨m0, m1, m2⟩, _⟩ := cells3 hV
                  refine bodyPost_ret (v := .tuple #[.agg #[.int .u16 0, .slice none 0 0, .slice none 0 0], .int .i64 160, .int .u16 a]) (by simp [results, Tryd.results38, go_sem, m0, m1, m2]) rfl ?_
                  rw [ER.out]
                  exact ⟨hB, rfl⟩
                | false =>
                  have hno2 : Hid (∀ (i : Nat) (hi : i < ahead.length), i < j + 1 → (fFn (ahead[i]).instrs a).isSome = false) := fun i hi h => by
                    by_cases e : i = j
                    · subst e; exact HQ.out.symm
                    · exact hno.out i hi (by omega)
                  go_wp2_with (fail)
                  go_roundw
                  case rel => exact ⟨j + 1, hlt, by go_num, by first | rfl | trivial, hno2⟩
                  case measure => first | (simp [intOf]; done) | (simp [intOf]; omega)
              · have NT : Hid (a ∉ takenOf ahead) := fun h => by
                  obtain ⟨i, hi, h2⟩ := taken_iff.1 h
                  have hij : i < j := by
                    have e := HNA.out
                    have e2 : na ≤ j := by omega
                    exact Nat.lt_of_lt_of_le (by rw [e]; exact hi) e2
                  rw [hno.out i hi hij] at h2
                  cases h2
                have hjn : ¬ (j : Int) < (na : Int) := by omega
                clear hno HFa
                go_wp2_with (fail)
                have LK := Lib.hid (LO.out wq a S2.out.below hal.1 hal.2)
                obtain ⟨x, hx⟩ : ∃ x, x = (lookAt code a).1 := ⟨_, rfl⟩
                obtain ⟨ez', hez⟩ : ∃ z, z = (lookAt code a).2 := ⟨_, rfl⟩
                rw [← hx, ← hez] at LK
                have HX := Lib.hid hx
                have HEZ := Lib.hid hez
                clear hx hez
                refine LK.out.mono ?_
                rintro e W3 ⟨rfl, b3⟩
                have S3 := Lib.hid (S2.out.bel b3)
                clear b3 LK S2
                obtain ⟨xa, xo, xp, xw, xn⟩ := x
                have ev : FI.val ⟨xa, xo, xp, xw, xn⟩ = .agg #[.int .u16 xa, .int .i64 xo, .int .u16 xp, .int .u16 xw, .int .u16 xn] := rfl
                rw [ev]
                have S4 := Lib.hid (S3.out.bel (b_alloc (Below.refl _ _) (.cells #[.int .u16 xa, .int .i64 xo, .int .u16 xp, .int .u16 xw, .int .u16 xn] 91)))
                have Y4 := Lib.hid (heap_alloc_at W3 (.cells #[.int .u16 xa, .int .i64 xo, .int .u16 xp, .int .u16 xw, .int .u16 xn] 91))
                by_cases hz : ez' = 0
                · subst hz
                  obtain ⟨Ai, ci, hvi⟩ := ownsRow_slice S4.out.ri
                  obtain ⟨nf, hnf⟩ : ∃ n, n = f.length := ⟨_, rfl⟩
                  have HNF := Lib.hid hnf
                  rw [← hnf] at hvi
                  subst hvi
                  obtain ⟨⟨p0, p1, p2⟩, z0, z1, z2⟩ := cells3 S4.out.box
                  have hnf2 : nf ≤ 65536 := by
                    have := HI.out.lens.1
                    have := HNC.out
                    have := HNF.out
                    omega
                  have PL := Lib.hid (rplace_any _ Ai nf ci f a HNF.out (insIn_of_row (by have := S4.out.ri; unfold RowJ at this; exact this) (by have := HNF.out; omega)))
                  have HP := Lib.hid (plc_le f a)
                  obtain ⟨p, hp⟩ : ∃ p, p = plc f a := ⟨_, rfl⟩
                  rw [← hp] at PL HP
                  have HPE := Lib.hid hp
                  have hpn : p ≤ nf := by rw [HNF.out]; exact HP.out
                  clear hp hnf
                  go_wp2_with (fail)
                  refine PL.out.mono ?_
                  rintro e w' ⟨rfl, hwe⟩
                  subst hwe
                  obtain ⟨V4, hV4⟩ : ∃ x, x = W3.alloc (.cells #[.int .u16 xa, .int .i64 xo, .int .u16 xp, .int .u16 xw, .int .u16 xn] 91) := ⟨_, rfl⟩
                  obtain ⟨Y, hY⟩ : ∃ y, y = W3.heap.size := ⟨_, rfl⟩
                  have s4 : V4.heap.size = Y + 1 := by rw [hV4, hY]; simp
                  have lowC : Hid (∀ k, vc.ownBlock = some k → k ≠ Y) := fun k hk e => by
                    have := (ownsRow_own S3.out.rc k hk).1
                    omega
                  have NXY : Hid (X ≠ Y) := fun e => by
                    have := heap_lt S3.out.box
                    omega
                  have lowI : Hid (∀ k, (Value.slice Ai nf ci).ownBlock = some k → k ≠ Y) := fun k hk e => by
                    have := (ownsRow_own S3.out.ri k hk).1
                    omega
                  rw [← hV4] at S4 Y4 p0 p1 p2 z0 z1 z2 ⊢
                  rw [← hY] at Y4 ⊢
                  clear PL S3 hV4 hY
                  obtain ⟨i1, hi1, hy0, hy1, hy2⟩ := info_parts infoRI
                  have RJ := Lib.hid (show (V4.alloc (.cells #[.int .u16 0, .int .i64 0, .int .u16 0, .int .u16 0, .int .u16 0] 91)).ownsRow w.heap.size 91 5 (.slice Ai nf ci) nf (f.flatMap FI.cells) by
                    have := S4.out.ri
                    unfold RowJ at this
                    rw [← HNF.out] at this
                    exact this.alloc _)
                  have hb4 := S4.out.below.size
                  have FIN : Hid (∀ (gj capj : Nat) (W5 : World), W5.ownsRow w.heap.size 91 5 (.slice (some ⟨gj, 0, none⟩) (nf + 1) capj) (nf + 1) (f.flatMap FI.cells ++ [.int .u16 0, .int .i64 0, .int .u16 0, .int .u16 0, .int .u16 0]) → (V4.alloc (.cells #[.int .u16 0, .int .i64 0, .int .u16 0, .int .u16 0, .int .u16 0] 91)).grownBy W5 (Value.slice Ai nf ci).ownBlock →
                      ((Value.slice (some ⟨gj, 0, none⟩) (nf + 1) capj).ownBlock = (Value.slice Ai nf ci).ownBlock ∨ (Value.slice (some ⟨gj, 0, none⟩) (nf + 1) capj).ownBlock = some (V4.alloc (.cells #[.int .u16 0, .int .i64 0, .int .u16 0, .int .u16 0, .int .u16 0] 91)).heap.size) →
                      W5.heap[X]? = some (.cells #[.int .u16 cw, .slice Ai nf ci, vc] 76 (0, 0)) ∧ Hid (RWS w (W5.setCell ⟨X, 1, none⟩ (.slice (some ⟨gj, 0, none⟩) (nf + 1) capj)) w.heap.size X cw (.slice (some ⟨g, 0, none⟩) no cap) (.slice (some ⟨gj, 0, none⟩) (nf + 1) capj) vc o' (midF f FI.zero nf) cs) ∧
                      Hid ((W5.setCell ⟨X, 1, none⟩ (.slice (some ⟨gj, 0, none⟩) (nf + 1) capj)).heap[Y]? = some (.cells #[.int .u16 xa, .int .i64 xo, .int .u16 xp, .int .u16 xw, .int .u16 xn] 91 (0, 0))) ∧ Hid (gj ≠ Y)) := fun gj capj W5 ho hg hat => by
                    have hu := Upd.of_grown hg
                    have hu2 : Upd V4 W5 (fun k => some k = (Value.slice Ai nf ci).ownBlock) := ((Upd.refl V4 _).alloc _).trans hu (fun i _ h => h)
                    have hXl := heap_lt S4.out.box
                    have kX := hu2.block X hXl (fun e => (S4.out.dI X e.symm).2.1 rfl)
                    have kY := hu2.block Y (by omega) (fun e => lowI.out Y e.symm rfl)
                    have hn : (Value.slice (some ⟨gj, 0, none⟩) (nf + 1) capj).ownBlock = (Value.slice Ai nf ci).ownBlock ∨ ∃ b, (Value.slice (some ⟨gj, 0, none⟩) (nf + 1) capj).ownBlock = some b ∧ V4.heap.size ≤ b := by
                      rcases hat with h | h
                      · exact .inl h
                      · exact .inr ⟨_, h, by simp⟩
                    have nXY : Y ≠ X := fun e => by
                      have h1 := S4.out.box
                      have h2 := Y4.out
                      rw [e, h1] at h2
                      cases h2
                    refine ⟨kX.trans S4.out.box, ?_, (heap_set_far nXY).trans (kY.trans Y4.out), fun e => ?_⟩
                    · refine S4.out.setI hu2 ?_ hn
                      unfold RowJ
                      rw [midF_len f FI.zero nf (by rw [HNF.out]; exact Nat.le_refl _), ← HNF.out, HNF.out, midF_end, List.flatMap_append, ← HNF.out]
                      exact ho
                    · rcases hat with h | h
                      · exact lowI.out gj h.symm e
                      · have e2 : gj = (V4.alloc (.cells #[.int .u16 0, .int .i64 0, .int .u16 0, .int .u16 0, .int .u16 0] 91)).heap.size := by
                          have e3 : some gj = _ := h
                          exact Option.some.inj e3
                        simp at e2
                        omega
                  have S4Z := Lib.hid s4
                  clear z0 z1 z2 s4
                  go_wp2_with (first
                    | (at_builtin; refine wpList_append_own_at _ rfl _ _ 74 rfl w.heap.size 91 i1 _ 5 24 Tryd.underlying74 hi1 hy0 hy1 hy2 rfl (by decide) (.slice Ai nf ci) nf _ rfl RJ.out ⟨V4.heap.size, 0, none⟩ 1 1 [.int .u16 0, .int .i64 0, .int .u16 0, .int .u16 0, .int .u16 0] rfl rfl (news5 _ (heap_alloc_at _ _)) (by simp [Value.oneCell']) (by simp only [maxLen]; omega) (by omega) (by simp; omega) ?_; intro v' W5 ho hgr _ hat; obtain ⟨gj, capj, rfl⟩ := ownsRow_succ ho; obtain ⟨bx, S6, Y6, NY⟩ := FIN.out gj capj W5 ho hgr hat; obtain ⟨⟨p0, p1, p2⟩, z0, z1, z2⟩ := cells3 bx; clear ho hgr hat bx))
                  obtain ⟨V6, hV6⟩ : ∃ x, x = W5.setCell ⟨X, 1, none⟩ (.slice (some ⟨gj, 0, none⟩) (nf + 1) capj) := ⟨_, rfl⟩
                  rw [← hV6] at S6 Y6 ⊢
                  clear hV6 p0 p1 p2 z0 z1 z2 FIN RJ lowI Y4 S4 S4Z
                  obtain ⟨⟨p0, p1, p2⟩, z0, z1, z2⟩ := cells3 S6.out.box
                  try go_wp2_with (fail)
                  clear p0 p1 p2 z0 z1 z2
                  go_loopw [18] (fun iv wr => ∃ (i : Nat) (d : FI), p ≤ i ∧ i ≤ nf ∧ iv = .int .i64 (i : Int) ∧ Hid (RWS w wr w.heap.size X cw (.slice (some ⟨g, 0, none⟩) no cap) (.slice (some ⟨gj, 0, none⟩) (nf + 1) capj) vc o' (midF f d i) cs) ∧ Hid (wr.heap[Y]? = some (.cells #[.int .u16 xa, .int .i64 xo, .int .u16 xp, .int .u16 xw, .int .u16 xn] 91 (0, 0)))) (fun iv _ => (intOf iv).toNat)
                  case atStart => exact ⟨nf, FI.zero, hpn, Nat.le_refl _, by go_num, S6, Y6⟩
                  case round =>
                    clear S6 Y6
                    obtain ⟨i, d, hpi, hin, rfl, S7, Y7⟩ := hrel
                    obtain ⟨⟨p0, p1, p2⟩, z0, z1, z2⟩ := cells3 S7.out.box
                    by_cases hgt : p < i
                    · obtain ⟨q, rfl⟩ : ∃ q, i = q + 1 := ⟨i - 1, by omega⟩
                      have hqf : q + 1 ≤ f.length := by rw [← HNF.out]; exact hin
                      obtain ⟨_, e1, -, -, ⟨c0, c1, c2, c3, c4⟩, -⟩ := S7.out.ri.at_ (i := q) (by rw [midF_len f d _ hqf]; omega)
                      cases e1
                      obtain ⟨_, e1, -, -, ⟨x0, x1, x2, x3, x4⟩, ⟨y0, y1, y2, y3, y4⟩⟩ := S7.out.ri.at_ (i := q + 1) (by rw [midF_len f d _ hqf]; omega)
                      cases e1
                      obtain ⟨x, hx⟩ : ∃ x, x = (midF f d (q + 1))[q + 1]'(by rw [midF_len f d _ hqf]; omega) := ⟨_, rfl⟩
                      rw [← hx] at x0 x1 x2 x3 x4
                      clear hx
                      obtain ⟨x5, x6, x7, x8, x9⟩ := x
                      dsimp only at x0 x1 x2 x3 x4
                      rw [midF_pre hqf] at c0 c1 c2 c3 c4
                      obtain ⟨y, hy⟩ : ∃ y, y = f[q]'(by omega) := ⟨_, rfl⟩
                      rw [← hy] at c0 c1 c2 c3 c4
                      have UP := Lib.hid (midF_up (d := d) hqf)
                      rw [← hy] at UP
                      obtain ⟨ya, yo, yp, yw, yn⟩ := y
                      dsimp only at c0 c1 c2 c3 c4
                      have NXT : Hid (RWS w (World.setCell (World.setCell (World.setCell (World.setCell (World.setCell wr.drew ⟨gj, (q + 1) * 5, none⟩ (.int .u16 ya)) ⟨gj, (q + 1) * 5 + 1, none⟩ (.int .i64 yo)) ⟨gj, (q + 1) * 5 + 2, none⟩ (.int .u16 yp)) ⟨gj, (q + 1) * 5 + 3, none⟩ (.int .u16 yw)) ⟨gj, (q + 1) * 5 + 4, none⟩ (.int .u16 yn)) w.heap.size X cw (.slice (some ⟨g, 0, none⟩) no cap) (.slice (some ⟨gj, 0, none⟩) (nf + 1) capj) vc o' (midF f ⟨ya, yo, yp, yw, yn⟩ q) cs ∧ (World.setCell (World.setCell (World.setCell (World.setCell (World.setCell wr.drew ⟨gj, (q + 1) * 5, none⟩ (.int .u16 ya)) ⟨gj, (q + 1) * 5 + 1, none⟩ (.int .i64 yo)) ⟨gj, (q + 1) * 5 + 2, none⟩ (.int .u16 yp)) ⟨gj, (q + 1) * 5 + 3, none⟩ (.int .u16 yw)) ⟨gj, (q + 1) * 5 + 4, none⟩ (.int .u16 yn)).heap[Y]? = some (.cells #[.int .u16 xa, .int .i64 xo, .int .u16 xp, .int .u16 xw, .int .u16 xn] 91 (0, 0))) := S7.out.set5 (.inr rfl) (by rw [midF_len f d _ hqf]; omega) UP.out NY.out Y7.out
                      have g0 : (p : Int) < (q : Int) + 1 := by omega
                      have g1 : IntKind.i64.wrap ((q : Int) + 1 - 1) = (q : Int) := by simp [IntKind.wrap, IntKind.bits, IntKind.signed]; omega
                      have g2 : (q : Int) < (nf : Int) + 1 := by omega
                      have g3 : (q : Int) + 1 < (nf : Int) + 1 := by omega
                      clear S7 Y7 UP hqf hy
                      go_wp2_with (fail)
                      go_region
                      all_goals
                        go_wp2_with (fail)
                        go_roundw
                        case rel => exact ⟨q, _, by omega, by omega, by go_num, Lib.hid NXT.out.1, Lib.hid NXT.out.2⟩
                        case measure => first | (simp [intOf]; done) | (simp [intOf]; omega)
                    · obtain rfl : i = p := by omega
                      have hil : i < (midF f d i).length := by rw [midF_len f d _ HP.out]; have := HP.out; omega
                      obtain ⟨_, e1, -, -, ⟨x0, x1, x2, x3, x4⟩, ⟨f0, f1, f2, f3, f4⟩⟩ := S7.out.ri.at_ (i := i) hil
                      cases e1
                      obtain ⟨x, hx⟩ : ∃ x, x = (midF f d i)[i] := ⟨_, rfl⟩
                      rw [← hx] at x0 x1 x2 x3 x4
                      clear hx
                      obtain ⟨x5, x6, x7, x8, x9⟩ := x
                      dsimp only at x0 x1 x2 x3 x4
                      obtain ⟨⟨y0, y1, y2, y3, y4⟩, -⟩ := cells5 Y7.out
                      have XA : Hid (xa = a ∧ FI.Ok ⟨xa, xo, xp, xw, xn⟩) := by
                        have := lookAt_ok BYT.out hal HEZ.out.symm
                        rw [← HX.out] at this
                        exact this
                      have EQ : Hid (midF f ⟨xa, xo, xp, xw, xn⟩ i = insI ⟨xa, xo, xp, xw, xn⟩ f) := by
                        have h1 := insI_plc (x := ⟨xa, xo, xp, xw, xn⟩) HI.out.fs (fun y hy => by
                          have := HI.out.off a List.mem_cons_self y hy
                          show y.at_ ≠ xa
                          rw [XA.out.1]; exact this)
                        show _ = _
                        rw [h1]
                        show midF f _ i = midF f _ (plc f xa)
                        rw [XA.out.1, ← HPE.out]
                      obtain ⟨F, hF⟩ : ∃ F, F = insI ⟨xa, xo, xp, xw, xn⟩ f := ⟨_, rfl⟩
                      have NXT := Lib.hid (S7.out.set5 (W1 := wr) (.inl rfl) hil ((midF_put HP.out).trans (EQ.out.trans hF.symm)) NY.out Y7.out)
                      have HFE := Lib.hid hF
                      have g3 : (i : Int) < (nf : Int) + 1 := by omega
                      clear S7 Y7 hil EQ hF
                      go_upto_region 24 with fail
                      obtain ⟨V8, hV8⟩ : ∃ x, x = World.setCell (World.setCell (World.setCell (World.setCell (World.setCell wr ⟨gj, i * 5, none⟩ (.int .u16 xa)) ⟨gj, i * 5 + 1, none⟩ (.int .i64 xo)) ⟨gj, i * 5 + 2, none⟩ (.int .u16 xp)) ⟨gj, i * 5 + 3, none⟩ (.int .u16 xw)) ⟨gj, i * 5 + 4, none⟩ (.int .u16 xn) := ⟨_, rfl⟩
                      rw [← hV8] at NXT ⊢
                      have S8 := Lib.hid NXT.out.1
                      have Y8 := Lib.hid NXT.out.2
                      clear hV8 NXT p0 p1 p2 z0 z1 z2 f0 f1 f2 f3 f4 x0 x1 x2 x3 x4 y0 y1 y2 y3 y4 g3
                      obtain ⟨C, hC⟩ : ∃ C, C = if xo = 1 then ins xw cs else cs := ⟨_, rfl⟩
                      have HCE := Lib.hid hC
                      clear hC
                      obtain ⟨⟨p0, p1, p2⟩, z0, z1, z2⟩ := cells3 S8.out.box
                      obtain ⟨⟨y0, y1, y2, y3, y4⟩, -⟩ := cells5 Y8.out
                      go_upto_if 113 with fail
                      go_cut [] from 41 to 141 (fun wx => ∃ vc', Hid (RWS w wx w.heap.size X cw (.slice (some ⟨g, 0, none⟩) no cap) (.slice (some ⟨gj, 0, none⟩) (nf + 1) capj) vc' o' F C) ∧ Hid (wx.heap[Y]? = some (.cells #[.int .u16 xa, .int .i64 xo, .int .u16 xp, .int .u16 xw, .int .u16 xn] 91 (0, 0))))
                      case first =>
                        by_cases ho : xo = 1
                        · have C1 : Hid (C = ins xw cs) := HCE.out.trans (if_pos ho)
                          subst ho
                          have WI := Lib.hid (rwith_any V8 w.heap.size vc cs xw S8.out.rc HI.out.cs (by have := HI.out.lens.2; have := HNC.out; omega) S8.out.below.size)
                          go_wp2_with (fail)
                          refine WI.out.mono ?_
                          rintro e W9 ⟨v', rfl, r9, u9, n9⟩
                          obtain ⟨Av, cv, rfl⟩ := r9.slice
                          have S9 := Lib.hid (S8.out.setC u9 r9 n9)
                          have kX : W9.heap[X]? = _ := (u9.block X (heap_lt S8.out.box) (fun e => (S8.out.dC X e.symm).2 rfl)).trans S8.out.box
                          have Y9 : Hid ((W9.setCell ⟨X, 2, none⟩ (.slice Av (ins xw cs).length cv)).heap[Y]? = some (.cells #[.int .u16 xa, .int .i64 1, .int .u16 xp, .int .u16 xw, .int .u16 xn] 91 (0, 0))) := (heap_set_far NXY.out.symm).trans ((u9.block Y (heap_lt Y8.out) (fun e => lowC.out Y e.symm rfl)).trans Y8.out)
                          clear p0 p1 p2 z0 z1 z2 y0 y1 y2 y3 y4 r9 u9 n9
                          obtain ⟨⟨p0, p1, p2⟩, z0, z1, z2⟩ := cells3 kX
                          clear kX
                          go_wp2_with (fail)
                          go_meet
                          exact ⟨_, by rw [C1.out]; exact S9, Y9⟩
                        · have C1 : Hid (C = cs) := HCE.out.trans (if_neg ho)
                          have ho2 : (xo == 1) = false := by simpa using ho
                          clear ho
                          go_wp2_with (fail)
                          go_meet
                          exact ⟨vc, by rw [C1.out]; exact S8, Y8⟩
                      case rest =>
                        obtain ⟨vc', S9, Y9⟩ := hcut
                        obtain ⟨V9, hV9⟩ : ∃ x, x = wc := ⟨_, rfl⟩
                        subst hV9
                        clear S8 Y8 p0 p1 p2 z0 z1 z2 y0 y1 y2 y3 y4
                        obtain ⟨⟨y0, y1, y2, y3, y4⟩, -⟩ := cells5 Y9.out
                        have LD := Lib.hid (rleads_any V9 ⟨xa, xo, xp, xw, xn⟩)
                        go_wp2_with (fail)
                        refine LD.out.mono ?_
                        rintro e W10 ⟨vl, rfl, rl, b10⟩
                        obtain ⟨Al, cl, rfl⟩ := rl.slice
                        have S10 := Lib.hid (S9.out.bel b10)
                        have RL := Lib.hid rl
                        have DL : Hid (∀ k, (Value.slice Al (leadsOf ⟨xa, xo, xp, xw, xn⟩).length cl).ownBlock = some k → (Value.slice (some ⟨g, 0, none⟩) no cap).ownBlock ≠ some k) := fun k hk e => by
                          have h1 := (ownsRow_own rl k hk).2
                          have h2 := (ownsRow_own S9.out.ro k e).1
                          omega
                        obtain ⟨L, hL⟩ : ∃ L, L = leadsOf ⟨xa, xo, xp, xw, xn⟩ := ⟨_, rfl⟩
                        rw [← hL] at RL DL ⊢
                        have HLE := Lib.hid hL
                        obtain ⟨nl, hnl⟩ : ∃ n, n = L.length := ⟨_, rfl⟩
                        rw [← hnl] at RL DL ⊢
                        have HNL := Lib.hid hnl
                        clear rl b10 hL hnl S9 Y9 y0 y1 y2 y3 y4 LD
                        have NX : Hid (WInv code (L.foldl (push F) o') F C ∧ F.length = nf + 1) := by
                          have := HI.out.next BYT.out HEZ.out.symm
                          rw [← HX.out] at this
                          show _ ∧ _
                          rw [HLE.out, HFE.out, HCE.out, HNF.out]
                          exact this
                        have hnl2 : nl ≤ 2 := by rw [HNL.out, HLE.out]; exact leads_len _
                        go_wp2_with (fail)
                        go_loopw [12, 20] (fun vo iv wr => ∃ (j2 : Nat) (o1 : List Int), j2 ≤ nl ∧ iv = .int .i64 (j2 : Int) ∧ Hid (o1 = (L.take j2).foldl (push F) o') ∧ Hid (RWS w wr w.heap.size X cw vo (.slice (some ⟨gj, 0, none⟩) (nf + 1) capj) vc' o1 F C) ∧ Hid (RowU wr V9.heap.size (.slice Al nl cl) L ∧ ∀ k, (Value.slice Al nl cl).ownBlock = some k → vo.ownBlock ≠ some k)) (fun _ iv _ => nl - (intOf iv).toNat)
                        case atStart => exact ⟨0, o', Nat.zero_le _, rfl, Lib.hid rfl, S10, Lib.hid ⟨RL.out, DL.out⟩⟩
                        case round =>
                          clear S10 RL DL
                          obtain ⟨j2, o1, hj2, rfl, HO, S11, R11⟩ := hrel
                          obtain ⟨⟨p0, p1, p2⟩, z0, z1, z2⟩ := cells3 S11.out.box
                          by_cases hlt2 : j2 < nl
                          · have hjl2 : j2 < L.length := by rw [← HNL.out]; exact hlt2
                            obtain ⟨gl, rfl, cL⟩ := R11.out.1.at_ hjl2
                            obtain ⟨l, hl⟩ : ∃ l, l = L[j2] := ⟨_, rfl⟩
                            rw [← hl] at cL
                            have HO2 : Hid ((L.take (j2 + 1)).foldl (push F) o' = push F o1 l) := by
                              show _ = _
                              rw [← List.take_append_getElem hjl2, List.foldl_append, ← HO.out, hl]
                              rfl
                            have TH : Hid (∀ nq, Calls Tryd.prog 60 #[.slice (some ⟨gj, 0, none⟩) (nf + 1) capj, .int .u16 l] (wr.drewN nq) fun e w' => e = .returned (.bool (fFn F l).isSome) ∧ w' = wr.drewN nq) := fun nq => by
                              have h1 := (S11.out.bel (b_drewN (Below.refl _ _) nq)).ri
                              unfold RowJ at h1
                              have h2 : F.length ≤ 2000000 := by rw [NX.out.2]; exact Nat.le_trans (Nat.succ_le_succ hnf2) (by decide)
                              exact rthere_any (wr.drewN nq) (some ⟨gj, 0, none⟩) (nf + 1) capj F l NX.out.2.symm (insIn_of_row h1 h2) NX.out.1.fs
                            have hjn2 : (j2 : Int) < (nl : Int) := by omega
                            obtain ⟨qq, hqq⟩ : ∃ q, q = (fFn F l).isSome := ⟨_, rfl⟩
                            rw [← hqq] at TH
                            have HQQ := Lib.hid hqq
                            clear hqq hl
                            cases qq with
                            | true =>
                              have HP1 : Hid (push F o1 l = o1) := by
                                show _ = _
                                unfold push; rw [if_pos HQQ.out.symm]
                              go_wp2_with (fail)
                              go_big_quiet (first | (go_at_call 60; refine Calls.quiet_of_same (TH.out _)))
                              go_wp2_with (fail)
                              go_roundw
                              case rel => exact ⟨j2 + 1, o1, hlt2, by go_num, Lib.hid (by rw [HO2.out, HP1.out]), Lib.hid (S11.out.bel (b_drewN (Below.refl _ _) _)), Lib.hid ⟨R11.out.1.below (b_drewN (Below.refl _ _) _), R11.out.2⟩⟩
                              case measure => first | (simp [intOf]; done) | (simp [intOf]; omega)
                            | false =>
                              have HP1 : Hid (push F o1 l = ins l o1) := by
                                show _ = _
                                unfold push; rw [if_neg (by rw [← HQQ.out]; decide)]
                              have WI : Hid (∀ nq, Calls Tryd.prog 37 #[u12, .int .u16 l] (wr.drewN nq) fun e w' => WithPost (wr.drewN nq) w.heap.size u12 o1 l e w') := fun nq => by
                                refine rwith_any _ w.heap.size _ o1 l (S11.out.ro.below (b_drewN (Below.refl _ _) _)) ?_ ?_ S11.out.below.size
                                · rw [HO.out]; exact push_sorted' F _ o' (List.pairwise_cons.1 HI.out.os).2
                                · have h1 := push_len_le F (L.take j2) o'
                                  have h2 := HNO.out
                                  rw [← HO.out] at h1
                                  simp at h1
                                  omega
                              go_wp2_with (fail)
                              go_big_quiet (first | (go_at_call 60; refine Calls.quiet_of_same (TH.out _)))
                              go_wp2_with (fail)
                              have S12 := Lib.hid (S11.out.bel (b_drewN (Below.refl _ _) nq))
                              refine (WI.out nq).mono ?_
                              rintro e W11 ⟨v', rfl, r9, u9, n9⟩
                              have S13 := Lib.hid (S12.out.setO u9 r9 n9)
                              have R13 : Hid (RowU W11 V9.heap.size (.slice (some ⟨gl, 0, none⟩) nl cl) L ∧ ∀ k, (Value.slice (some ⟨gl, 0, none⟩) nl cl).ownBlock = some k → v'.ownBlock ≠ some k) := by
                                have h0 : RowU (wr.drewN nq) V9.heap.size (.slice (some ⟨gl, 0, none⟩) nl cl) L := R11.out.1.below (b_drewN (Below.refl _ _) _)
                                refine ⟨h0.move (fun k hk => u9.block k (ownsRow_own h0 k hk).1 (fun e => R11.out.2 k hk e.symm)), fun k hk e => ?_⟩
                                rcases n9 with h | ⟨b, h, hb⟩
                                · exact R11.out.2 k hk (by rw [← h]; exact e)
                                · rw [h] at e
                                  have e2 := Option.some.inj e
                                  have := (ownsRow_own h0 k hk).1
                                  omega
                              clear WI S12 r9 u9 n9
                              go_wp2_with (fail)
                              go_roundw
                              case rel => exact ⟨j2 + 1, ins l o1, hlt2, by go_num, (show _ = _ by rw [HO2.out, HP1.out]), S13, R13⟩
                              case measure => first | (simp [intOf]; done) | (simp [intOf]; omega)
                          · have e : j2 = nl := by omega
                            subst e
                            have HO3 : Hid (o1 = L.foldl (push F) o') := by
                              show _ = _
                              rw [HO.out, HNL.out, List.take_length]
                            have HL3 : Hid (wl code (takenOf ahead) k1 o1 F C = some r') := by
                              have h1 := HL.out
                              unfold wl at h1
                              rw [if_neg NT.out, if_neg (by rw [← HEZ.out]; decide), ← HX.out] at h1
                              show _ = _
                              rw [HO3.out, HLE.out, HFE.out, HCE.out]
                              exact h1
                            have NX3 : Hid (WInv code o1 F C) := by
                              show WInv code o1 F C
                              rw [HO3.out]
                              exact NX.out.1
                            have hjn2 : ¬ (j2 : Int) < (j2 : Int) := by omega
                            clear NX HL HO HO3
                            go_wp2_with (fail)
                            go_roundg k1
                            case rel => exact ⟨_, _, _, _, _, HL3, NX3, S11⟩
                            case measure => omega
                · have hz2 : (ez' == 0) = false := by simpa using hz
                  have ER : Hid (r = .error (ez', a)) := by
                    have h1 := HL.out
                    unfold wl at h1
                    rw [if_neg NT.out, ← HEZ.out, if_pos hz] at h1
                    have h2 := (Option.some.inj h1).symm
                    show r = _
                    rw [HRE.out, h2]; rfl
                  obtain ⟨⟨p0, p1, p2⟩, z0, z1, z2⟩ := cells3 S4.out.res
                  go_wp2_with (fail)
                  refine tail_w3 (w := w) S4.out.res (Nat.le_refl _) S4.out.below ?_
                  intro V hV hU hB
                  obtain ⟨⟨m0, m1, m2⟩, _⟩ := cells3 hV
                  refine bodyPost_ret (v := .tuple #[.agg #[.int .u16 0, .slice none 0 0, .slice none 0 0], .int .i64 ez', .int .u16 a]) (by simp [results, Tryd.results38, go_sem, m0, m1, m2]) rfl ?_
                  rw [ER.out]
                  exact ⟨hB, rfl⟩
  · have EV : Hid (r = .error (163, cw)) := by
      have := HR.out
      unfold wordOf at this
      rw [if_neg hc1] at this
      exact (Option.some.inj this).symm
    cases hcc : cellOf code cw with
    | none =>
      have g1 : (none : Option Int).getD 0 = 0 := rfl
      have g2 : (none : Option Int).isSome = false := rfl
      rw [g1, g2]
      go_wp2_with (fail)
      refine tail_w3 (w := w) (W := World.drewN (w.alloc (.cells #[.int .u16 0, .slice none 0 0, .slice none 0 0] 76)) nq) R0.out (Nat.le_refl _) (b_drewN b0.out nq) ?_
      intro V hV hU hB
      obtain ⟨⟨m0, m1, m2⟩, _⟩ := cells3 hV
      refine bodyPost_ret (v := .tuple #[.agg #[.int .u16 0, .slice none 0 0, .slice none 0 0], .int .i64 163, .int .u16 cw]) (by simp [results, Tryd.results38, go_sem, m0, m1, m2]) rfl ?_
      rw [EV.out]
      exact ⟨hB, rfl⟩
    | some v =>
      have hv : (v == 1) = false := by
        have : v ≠ 1 := fun e => hc1 (by rw [hcc, e])
        simpa using this
      have g1 : (some v).getD 0 = v := rfl
      have g2 : (some v).isSome = true := rfl
      rw [g1, g2]
      go_wp2_with (fail)
      refine tail_w3 (w := w) (W := World.drewN (w.alloc (.cells #[.int .u16 0, .slice none 0 0, .slice none 0 0] 76)) nq) R0.out (Nat.le_refl _) (b_drewN b0.out nq) ?_
      intro V hV hU hB
      obtain ⟨⟨m0, m1, m2⟩, _⟩ := cells3 hV
      refine bodyPost_ret (v := .tuple #[.agg #[.int .u16 0, .slice none 0 0, .slice none 0 0], .int .i64 163, .int .u16 cw]) (by simp [results, Tryd.results38, go_sem, m0, m1, m2]) rfl ?_
      rw [EV.out]
      exact ⟨hB, rfl⟩
end Go.Proofs.YtabeljpnmmfpgaaDoor
