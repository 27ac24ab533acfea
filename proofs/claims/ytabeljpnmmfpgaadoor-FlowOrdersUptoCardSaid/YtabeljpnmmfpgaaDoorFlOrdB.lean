/-
  flow's Order, 2: slices.Delete of one word; slices.Clone of words.
-/
import Derived.Deep.RegionLaw
import Derived.Lib.SliceRun
import Derived.Laws.OwnMore
import Derived.Test.YtabeljpnmmfpgaaDoorFlOrdA
namespace Go.Proofs.YtabeljpnmmfpgaaDoor
open Go.RowKit Go.MapKept Go.Maps Go.Sort Go.Lib
set_option linter.unusedVariables false
set_option linter.unusedSimpArgs false

theorem run_clear3 (w : World) (t e ty : TypeId) (z0 z1 z2 : Value) (ht : Tryd.prog.underlying t = some (.slice e)) (hv : ∀ w, (zeroValue e).run Tryd.prog w = .ok (.agg #[z0, z1, z2]) w) (h0 : z0.oneCell' = true) (h1 : z1.oneCell' = true) (h2 : z2.oneCell' = true) (b o c : Nat)
    (hc : ∀ j, j < 3 → (w.cell? ⟨b, o + j, none⟩).isSome = true) (hf : ∀ j, j < 3 → w.frozen? ⟨b, o + j, none⟩ = false) :
    (Builtin.clear_ #[t] ty #[.slice (some ⟨b, o, none⟩) 1 c]).run Tryd.prog w = .ok (.tuple #[]) (w.setCells b o [z0, z1, z2]) := by
  have hzc : (Builtin.zeroCells (Value.agg #[z0, z1, z2]).cells 1).toList = [z0, z1, z2] := by
    have e : (Value.agg #[z0, z1, z2]).cells = #[z0, z1, z2] := rfl
    rw [e]
    apply List.ext_getElem
    · simp [Builtin.zeroCells]
    · intro i h1 h2
      have h3 : i < 3 := by simpa using h2
      have h4 : i = 0 ∨ i = 1 ∨ i = 2 := by omega
      rcases h4 with rfl | rfl | rfl <;> simp [Builtin.zeroCells]
  have hst := run_storeCells_cells (P := Tryd.prog) b o [z0, z1, z2] 0 w (by simpa using hc) (by simpa using hf) (by intro v hv'; simp at hv'; rcases hv' with rfl | rfl | rfl <;> assumption)
  simp only [Nat.add_zero] at hst
  simp [Builtin.clear_, run_underlying ht, hv, hzc, hst]

theorem setCells_block (w : World) (g : Nat) : ∀ (vs : List Value) (o : Nat) (cur : Array Value) (t : TypeId), w.heap[g]? = some (.cells cur t (0, 0)) → ∃ cur', (w.setCells g o vs).heap[g]? = some (.cells cur' t (0, 0)) ∧ cur'.size = cur.size := by
  intro vs
  induction vs generalizing w with
  | nil => intro o cur t h; exact ⟨cur, h, rfl⟩
  | cons v r ih =>
    intro o cur t h
    have h1 := heap_set_cell h o v
    obtain ⟨cur', e1, e2⟩ := ih (w.setCell ⟨g, o, none⟩ v) (o + 1) _ t h1
    exact ⟨cur', e1, by rw [e2]; simp⟩
/-- A row of words whose first cells are told. -/
theorem rowW_block {w : World} {base g n c : Nat} {l : List WT} (h : RowW w base (.slice (some ⟨g, 0, none⟩) n c) l) : ∃ cur, w.heap[g]? = some (.cells cur 53 (0, 0)) ∧ n = l.length ∧ base ≤ g ∧ n ≤ c ∧ c ≤ maxLen ∧ cur.size = c * 3 ∧ cur.toList.take (n * 3) = l.flatMap WT.cells := by
  have h' : w.ownsRow base 53 3 (.slice (some ⟨g, 0, none⟩) n c) l.length (l.flatMap WT.cells) := h
  rcases h'.2 with ⟨e, _⟩ | ⟨g', cap, cur, e, hg, hh, h3, h4, h5, hc⟩
  · cases e
  · cases e
    exact ⟨cur, hh, rfl, hg, h3, h4, h5, hc⟩

theorem flat_erase (l : List WT) (i : Nat) (hi : i < l.length) : ∀ t, t < (l.length - 1) * 3 → ((l.eraseIdx i).flatMap WT.cells)[t]? = if i * 3 ≤ t then (l.flatMap WT.cells)[t + 3]? else (l.flatMap WT.cells)[t]? := by
  intro t ht
  have hl : (l.eraseIdx i).length = l.length - 1 := List.length_eraseIdx_of_lt hi
  have e1 := flat3 (l.eraseIdx i) (t / 3) (t % 3) (by rw [hl]; omega) (by omega)
  rw [show t / 3 * 3 + t % 3 = t by omega] at e1
  rw [e1]
  by_cases h : i * 3 ≤ t
  · rw [if_pos h]
    have e2 := flat3 l (t / 3 + 1) (t % 3) (by omega) (by omega)
    rw [show (t / 3 + 1) * 3 + t % 3 = t + 3 by omega] at e2
    rw [e2]
    have e3 : (l.eraseIdx i)[t / 3]'(by rw [hl]; omega) = l[t / 3 + 1]'(by omega) := by rw [List.getElem_eraseIdx_of_ge _ (by omega)]
    rw [e3]
  · rw [if_neg h]
    have e2 := flat3 l (t / 3) (t % 3) (by omega) (by omega)
    rw [show t / 3 * 3 + t % 3 = t by omega] at e2
    rw [e2]
    have e3 : (l.eraseIdx i)[t / 3]'(by rw [hl]; omega) = l[t / 3]'(by omega) := by rw [List.getElem_eraseIdx_of_lt _ (by omega)]
    rw [e3]

/-- What Delete leaves. -/
def DelPost (w : World) (base g n c : Nat) (l : List WT) (i : Nat) (w' : World) : Prop := RowW w' base (.slice (some ⟨g, 0, none⟩) (n - 1) c) (l.eraseIdx i) ∧ Upd w w' (fun k => k = g)
theorem delPost_mk {w : World} {base g n c : Nat} {l : List WT} {i : Nat} (h : RowW w base (.slice (some ⟨g, 0, none⟩) n c) l) (hi : i < l.length) (F : Array Value) (hF : F = (l.flatMap WT.cells).toArray) (z : List Value) (hz : z.length = 3) :
    DelPost w base g n c l i ((w.drew.setCells g (i * 3) ((l.flatMap WT.cells).drop ((i + 1) * 3))).setCells g ((n - 1) * 3) z) := by
  obtain ⟨cur, hh, rfl, hb, hc, hm, hs, ht⟩ := rowW_block h
  have szF : F.size = l.length * 3 := by rw [hF, List.size_toArray, flat3_len]
  have hold : Holds id w.drew g 0 F := by
    intro j hj
    refine ⟨?_, by show w.frozen? _ = false; simp [World.frozen?, hh]⟩
    show w.cell? _ = _
    rw [Nat.zero_add, cell_of hh]
    have e1 : (cur.toList.take (l.length * 3))[j]? = F.toList[j]? := by rw [ht, hF]
    rw [List.getElem?_take_of_lt (by omega), Array.getElem?_toList, Array.getElem?_toList, Array.getElem?_eq_getElem hj] at e1
    rw [e1, getElem!_pos F j hj]; rfl
  have e0 : w.drew = putRow id w.drew g 0 F := (putRow_self id w.drew g 0 F hold).symm
  have ln : ((l.flatMap WT.cells).drop ((i + 1) * 3)).length = l.length * 3 - (i + 1) * 3 := by rw [List.length_drop, flat3_len]
  have e1 : w.drew.setCells g (i * 3) ((l.flatMap WT.cells).drop ((i + 1) * 3)) = putRow id w.drew g 0 (setMany F (i * 3) ((l.flatMap WT.cells).drop ((i + 1) * 3))) := by
    have := setCells_putRow w.drew g 0 ((l.flatMap WT.cells).drop ((i + 1) * 3)) (i * 3) F (by rw [ln, szF]; omega)
    rw [← e0, Nat.zero_add] at this
    exact this
  have e2 := setCells_putRow w.drew g 0 z ((l.length - 1) * 3) (setMany F (i * 3) ((l.flatMap WT.cells).drop ((i + 1) * 3))) (by rw [hz, size_setMany, szF]; omega)
  rw [Nat.zero_add] at e2
  rw [e1, e2]
  obtain ⟨G, hG⟩ : ∃ G, G = setMany (setMany F (i * 3) ((l.flatMap WT.cells).drop ((i + 1) * 3))) ((l.length - 1) * 3) z := ⟨_, rfl⟩
  rw [← hG]
  have szG : G.size = l.length * 3 := by rw [hG, size_setMany, size_setMany, szF]
  have hh' : (putRow id w.drew g 0 G).heap[g]? = some (.cells (putCells id 0 G cur) 53 (0, 0)) := by
    have hd : w.drew.heap[g]? = some (.cells cur 53 (0, 0)) := hh
    simp [putRow, mapBlock, Array.getElem?_modify, hd, onCells]
  have le : (l.eraseIdx i).length = l.length - 1 := List.length_eraseIdx_of_lt hi
  refine ⟨⟨by rw [flat3_len], .inr ⟨g, c, _, by rw [le], hb, hh', by omega, hm, by simp [putCells, hs], ?_⟩⟩, ⟨rfl, rfl, rfl, (by rw [Go.Sort.size_putRow]; exact Nat.le_refl _), fun k hk hne => ?_⟩⟩
  · have tk := take_putCells cur G (by rw [szG, hs]; omega)
    apply List.ext_getElem?
    intro t
    rw [le]
    by_cases htt : t < (l.length - 1) * 3
    · rw [List.getElem?_take_of_lt htt]
      have tk2 : ((putCells id 0 G cur).toList.take G.size)[t]? = G.toList[t]? := by rw [tk]
      rw [List.getElem?_take_of_lt (by rw [szG]; omega)] at tk2
      rw [tk2, flat_erase l i hi t htt, Array.getElem?_toList, Array.getElem?_eq_getElem (by rw [szG]; omega)]
      have hg1 : G[t]'(by rw [szG]; omega) = G[t]! := (getElem!_pos G t (by rw [szG]; omega)).symm
      rw [hg1, hG, get_setMany _ _ _ t (by rw [size_setMany, szF]; omega), if_neg (by omega), get_setMany _ _ _ t (by rw [szF]; omega)]
      have fl := flat3_len l
      by_cases h3 : i * 3 ≤ t
      · rw [if_pos ⟨h3, by rw [ln]; omega⟩, if_pos h3]
        rw [getElem!_pos _ _ (by rw [ln]; omega), List.getElem_drop, List.getElem?_eq_getElem (by omega)]
        congr 1
        congr 1
        omega
      · rw [if_neg (by omega), if_neg h3, getElem!_pos F t (by rw [szF]; omega), List.getElem?_eq_getElem (by omega)]
        simp [hF]
    · rw [List.getElem?_take_eq_none (by omega), List.getElem?_eq_none (by rw [flat3_len, le]; omega)]
  · have hd : w.drew.heap[k]? = w.heap[k]? := rfl
    have : g ≠ k := fun e => hne e.symm
    simp [putRow, mapBlock, Array.getElem?_modify, this]
    exact hd

theorem infoWordS : ∃ i0, Tryd.prog.info? 53 = some i0 ∧ i0.size = 3 := by
  obtain ⟨i0, hi0, _, hz1, _⟩ := info_parts infoWord
  exact ⟨i0, hi0, hz1⟩
theorem zero_word (W : World) : (zeroValue 53).run Tryd.prog W = .ok (.agg #[.int .u16 0, .slice none 0 0, .slice none 0 0]) W := by kernel_rfl

set_option maxRecDepth 100000 in
set_option maxHeartbeats 4000000 in
theorem delete_any (w : World) (base g n c : Nat) (l : List WT) (i : Nat) (h : RowW w base (.slice (some ⟨g, 0, none⟩) n c) l) (hi : i < n) (hn : n ≤ 1000000) :
    Calls Tryd.prog 45 #[.slice (some ⟨g, 0, none⟩) n c, .int .i64 (i : Int), .int .i64 ((i : Int) + 1)] w fun e w' => e = .returned (.slice (some ⟨g, 0, none⟩) (n - 1) c) ∧ DelPost w base g n c l i w' := by
  obtain ⟨cur, hh, hnl, hb, hc, hm, hs, ht⟩ := rowW_block h
  obtain ⟨i0, hi0, hz1⟩ := infoWordS
  have hil : i < l.length := by omega
  have FIN := Lib.hid (delPost_mk h hil _ rfl [.int .u16 0, .slice none 0 0, .slice none 0 0] rfl)
  obtain ⟨news, hnews⟩ : ∃ news, news = (l.flatMap WT.cells).drop ((i + 1) * 3) := ⟨_, rfl⟩
  rw [← hnews] at FIN
  have fl := flat3_len l
  have ln : news.length = (n - (i + 1)) * 3 := by rw [hnews, List.length_drop, fl]; omega
  have cl : ∀ j, j < n * 3 → ∃ u, (l.flatMap WT.cells)[j]? = some u ∧ w.drew.cell? ⟨g, j, none⟩ = some u := fun j hj => by
    have hj' : j < (l.flatMap WT.cells).length := by rw [fl]; omega
    refine ⟨_, List.getElem?_eq_getElem hj', ?_⟩
    show w.cell? _ = _
    rw [cell_of hh, ← Array.getElem?_toList]
    have e1 : (cur.toList.take (n * 3))[j]? = (l.flatMap WT.cells)[j]? := by rw [ht]
    rw [List.getElem?_take_of_lt hj] at e1
    rw [e1]
    exact List.getElem?_eq_getElem hj'
  have fz : ∀ j, w.drew.frozen? ⟨g, j, none⟩ = false := fun j => by show w.frozen? _ = false; exact free_of hh j
  have one : Hid (∀ u ∈ news, u.oneCell' = true) := fun u hu => by
    rw [hnews] at hu
    obtain ⟨x, _, hx⟩ := List.mem_flatMap.1 (List.mem_of_mem_drop hu)
    simp [WT.cells, WT.vi, WT.vc] at hx
    rcases hx with rfl | rfl | rfl <;> rfl
  obtain ⟨AD, hAD, hsrc⟩ : ∃ AD : Addr, (if c = i + 1 then some (⟨g, 0, none⟩ : Addr) else some ⟨g, (i + 1) * 3, none⟩) = some AD ∧ Hid (∀ t u, news[t]? = some u → w.drew.cell? (AD.add t) = some u) := by
    by_cases hcc : c = i + 1
    · refine ⟨⟨g, 0, none⟩, by rw [if_pos hcc], fun t u hu => ?_⟩
      have h0 : news.length = 0 := by rw [ln]; omega
      rw [List.length_eq_zero_iff.1 h0] at hu
      simp at hu
    · refine ⟨⟨g, (i + 1) * 3, none⟩, by rw [if_neg hcc], fun t u hu => ?_⟩
      have htl := (List.getElem?_eq_some_iff.1 hu).1
      obtain ⟨u', e1, e2⟩ := cl ((i + 1) * 3 + t) (by rw [ln] at htl; omega)
      rw [hnews, List.getElem?_drop, e1] at hu
      have e : (⟨g, (i + 1) * 3, none⟩ : Addr).add t = ⟨g, (i + 1) * 3 + t, none⟩ := by unfold Addr.add; split <;> simp_all
      rw [e, e2, hu]
  have spare : Hid (∀ t, t < news.length → (w.drew.cell? ⟨g, 0 + i * 3 + t, none⟩).isSome = true ∧ w.drew.frozen? ⟨g, 0 + i * 3 + t, none⟩ = false) := fun t ht' => by
    rw [Nat.zero_add]
    obtain ⟨u, _, e2⟩ := cl (i * 3 + t) (by rw [ln] at ht'; omega)
    exact ⟨by rw [e2]; rfl, fz _⟩
  have LN := Lib.hid ln
  obtain ⟨W1, hW1⟩ : ∃ W1, W1 = w.drew.setCells g (i * 3) news := ⟨_, rfl⟩
  have HW1 := Lib.hid hW1
  have keep : ∀ j, j < n * 3 → (W1.cell? ⟨g, j, none⟩).isSome = true ∧ W1.frozen? ⟨g, j, none⟩ = false := fun j hj => by
    have hd : w.drew.heap[g]? = some (.cells cur 53 (0, 0)) := hh
    obtain ⟨cur', e1, e2⟩ := setCells_block w.drew g news (i * 3) cur 53 hd
    rw [← hW1] at e1
    refine ⟨?_, free_of e1 j⟩
    rw [cell_of e1, Array.getElem?_eq_getElem (by rw [e2, hs]; omega)]; rfl
  have em : i + (n - (i + 1)) = n - 1 := by omega
  have hcl : ∀ ty, (Builtin.clear_ #[30] ty #[.slice (some ⟨g, (i + (n - (i + 1))) * 3, none⟩) (n - (i + (n - (i + 1)))) (c - (i + (n - (i + 1))))]).run Tryd.prog W1 = .ok (.tuple #[]) (W1.setCells g ((n - 1) * 3) [.int .u16 0, .slice none 0 0, .slice none 0 0]) := fun ty => by
    rw [em, show n - (n - 1) = 1 by omega]
    exact run_clear3 W1 _ _ ty _ _ _ Tryd.underlying30 zero_word rfl rfl rfl g ((n - 1) * 3) _ (fun j hj => (keep _ (by omega)).1) (fun j hj => (keep _ (by omega)).2)
  have EM := Lib.hid em
  have HW : Hid (W1 = w.drew.setCells g (0 + i * 3) news) := by rw [Nat.zero_add]; exact hW1
  have hne : ((i : Int) == (i : Int) + 1) = false := by simp; omega
  have hic : i ≤ c := by omega
  have bi0 : (0 : Int) ≤ (i : Int) + 1 := by omega
  have bi1 : (i : Int) + 1 ≤ (n : Int) := by omega
  have bi2 : (i : Int) ≤ (n : Int) := by omega
  have hjc : i + 1 ≤ c := by omega
  rw [← hW1] at FIN
  clear hW1 keep cl fz ln hnews hh ht h hnl fl hs hb em HW1
  go_enter Tryd.func45, Tryd.ntmps45
  go_wp2_with (fail)
  go_region_law (refine step_append_room rfl (.tmp 22) (.tmp 25) 30 rfl 53 i0 3 Tryd.underlying30 hi0 hz1 g 0 i c (by simp [Act.eval, Act.put]) AD (n - (i + 1)) (c - (i + 1)) news (by simp [Act.eval, Act.put, hAD]) LN.out hsrc.out one.out (by omega) spare.out ?_; rw [← HW.out])
  all_goals
    go_wp2_with (fail)
    go_ret
    exact ⟨by rw [EM.out]; rfl, FIN.out⟩

set_option maxRecDepth 100000 in
set_option maxHeartbeats 4000000 in
theorem clone_nil (w : World) : Calls Tryd.prog 42 #[.slice none 0 0] w fun e w' => e = .returned (.slice none 0 0) ∧ w' = w := by
  have hnil := run_eql_slice_nil w 30 53 none 0 0 0 0 Tryd.underlying30
  go_enter Tryd.func42, Tryd.ntmps42
  go_wp2_with (fail)
  go_ret
  exact ⟨rfl, rfl⟩
set_option maxRecDepth 100000 in
set_option maxHeartbeats 4000000 in
theorem clone_some (w : World) (b g n c : Nat) (l : List WT) (h : RowW w b (.slice (some ⟨g, 0, none⟩) n c) l) (hn : n ≤ 1000000) :
    Calls Tryd.prog 42 #[.slice (some ⟨g, 0, none⟩) n c] w fun e w' => ∃ v, e = .returned v ∧ Hid (RowW w' w.heap.size v l ∧ Below w.heap.size w w') := by
  have hnil := run_eql_slice_nil w 30 53 (some ⟨g, 0, none⟩) n c 0 0 Tryd.underlying30
  obtain ⟨cur, hh, hnl, hb, hc, hm, hs, ht⟩ := rowW_block h
  obtain ⟨i0, hi0, hz0, hz1, hz2⟩ := info_parts infoWord
  have own : Hid ((w.alloc (.cells #[] 53)).ownsRow w.heap.size 53 3 (.slice (some ⟨w.heap.size, 0, none⟩) 0 0) 0 []) :=
    ⟨rfl, .inr ⟨w.heap.size, 0, #[], rfl, Nat.le_refl _, heap_alloc_at _ _, Nat.le_refl _, Nat.zero_le _, rfl, rfl⟩⟩
  have news : Hid (∀ j u, (l.flatMap WT.cells)[j]? = some u → (w.alloc (.cells #[] 53)).cell? ((⟨g, 0, none⟩ : Addr).add j) = some u) := fun j u hu => by
    have e : (⟨g, 0, none⟩ : Addr).add j = ⟨g, j, none⟩ := by unfold Addr.add; split <;> simp_all
    rw [e]
    refine cell_alloc_old ?_
    have hj := (List.getElem?_eq_some_iff.1 hu).1
    rw [flat3_len] at hj
    rw [cell_of hh, ← Array.getElem?_toList]
    have e1 : (cur.toList.take (n * 3))[j]? = (l.flatMap WT.cells)[j]? := by rw [ht]
    rw [List.getElem?_take_of_lt (by omega)] at e1
    rw [e1]; exact hu
  have one : Hid (∀ u ∈ l.flatMap WT.cells, u.oneCell' = true) := fun u hu => by
    obtain ⟨x, _, hx⟩ := List.mem_flatMap.1 hu
    simp [WT.cells, WT.vi, WT.vc] at hx
    rcases hx with rfl | rfl | rfl <;> rfl
  have LN := Lib.hid (show (l.flatMap WT.cells).length = n * 3 by rw [flat3_len, hnl])
  have fin : Hid (∀ v' w', World.ownsRow w' w.heap.size 53 3 v' (0 + n) ([] ++ l.flatMap WT.cells) → World.grownBy (w.alloc (.cells #[] 53)) w' (some w.heap.size) → RowW w' w.heap.size v' l ∧ Below w.heap.size w w') := fun v' w' ho hg => by
    rw [Nat.zero_add, hnl, List.nil_append] at ho
    have hb2 := b_alloc (Below.refl w.heap.size w) (.cells #[] 53)
    exact ⟨ho, hb2.grown hg hb2.size (fun k hk => by cases hk; exact Nat.le_refl _)⟩
  clear h hh hs ht hb hnl
  go_enter Tryd.func42, Tryd.ntmps42
  go_wp2_with (at_builtin; refine wpList_append_own_at _ rfl (.tmp 5) (.tmp 6) 30 rfl w.heap.size 53 i0 _ 3 56 Tryd.underlying30 hi0 hz0 hz1 hz2 rfl (by decide) _ 0 [] rfl own.out ⟨g, 0, none⟩ n c (l.flatMap WT.cells) rfl LN.out news.out one.out (by simp only [maxLen]; omega) (by omega) (by simp) ?_; intro v' w3 ho hgr _ _; have FF := Lib.hid (fin.out v' w3 ho hgr); clear ho hgr)
  go_ret
  exact ⟨_, rfl, FF⟩
end Go.Proofs.YtabeljpnmmfpgaaDoor
