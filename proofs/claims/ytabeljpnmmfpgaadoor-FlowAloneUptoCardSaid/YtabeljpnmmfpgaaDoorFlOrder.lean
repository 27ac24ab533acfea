/-
  flow's Order, 1: is one of these addresses not told.
  flow's Order, 2: slices.Delete of one word; slices.Clone of words.
  flow's Order: the words so that each stands behind those it calls.
-/
import Derived.Test.YtabeljpnmmfpgaaDoorFlFix
import Derived.Deep.RegionLaw
import Derived.Lib.SliceRun
import Derived.Laws.OwnMore
namespace Go.Proofs.YtabeljpnmmfpgaaDoor
open Go.RowKit Go.MapKept Go.Maps Go.Sort
set_option linter.unusedVariables false
set_option linter.unusedSimpArgs false

theorem notTold_any (w : World) (bt bm : Nat) (T : List Int) (x : Int) (hc : w.cell? ⟨bt, 0, none⟩ = some (.map (some bm))) (h : SetAt w bm T) :
    Calls Tryd.prog 44 #[.int .u16 x, .pointer (some ⟨bt, 0, none⟩)] w fun e w' => e = .returned (.bool (decide (x ∉ T))) ∧ w' = w := by
  by_cases hx : x ∈ T
  · have hl := SetAt.in_ h hx
    have e : decide (x ∉ T) = false := by simp [hx]
    rw [e]
    clear e hx h
    go_enter Tryd.func44, Tryd.ntmps44
    go_wp2
    go_ret
    exact ⟨rfl, rfl⟩
  · have hl := SetAt.out_ h hx
    have e : decide (x ∉ T) = true := by simp [hx]
    rw [e]
    clear e hx h
    go_enter Tryd.func44, Tryd.ntmps44
    go_wp2
    go_ret
    exact ⟨rfl, rfl⟩

/-- A row of addresses that is read. -/
structure AtsIn (w : World) (A : Option Addr) (ss : List Int) : Prop where
  len : ss.length ≤ 1000000000000
  at_ : ∀ (j : Nat) (hj : j < ss.length), ∃ b off, A = some ⟨b, off, none⟩ ∧ w.cell? ⟨b, off + j, none⟩ = some (.int .u16 ss[j])
theorem AtsIn.below {w W : World} {A : Option Addr} {ss : List Int} (h : AtsIn w A ss) (hb : Below w.heap.size w W) : AtsIn W A ss :=
  ⟨h.len, fun j hj => by
    obtain ⟨b, off, e, h0⟩ := h.at_ j hj
    exact ⟨b, off, e, (hb.cell (World.block_lt_of_cell? w _ h0)).trans h0⟩⟩
theorem AtsIn.upd {w W : World} {A : Option Addr} {ss : List Int} {S : Nat → Prop} (h : AtsIn w A ss) (hu : Upd w W S) (hs : ∀ ad, A = some ad → ¬ S ad.block) : AtsIn W A ss :=
  ⟨h.len, fun j hj => by
    obtain ⟨b, off, e, h0⟩ := h.at_ j hj
    refine ⟨b, off, e, ?_⟩
    rw [← h0]
    unfold World.cell?
    rw [hu.block b (World.block_lt_of_cell? w _ h0) (hs _ e)]⟩
theorem RowU.atsIn {w : World} {base n c : Nat} {A : Option Addr} {ss : List Int} (h : RowU w base (.slice A n c) ss) (hl : ss.length ≤ 1000000000000) : AtsIn w A ss :=
  ⟨hl, fun j hj => by
    obtain ⟨g, e, hc⟩ := h.at_ hj
    exact ⟨g, 0, e, by rw [Nat.zero_add]; exact hc⟩⟩

/-- What IndexFunc answers: a place just where one is not told. -/
def IxPost (T ss : List Int) (e : Ending) : Prop := ∃ i : Int, e = .returned (.int .i64 i) ∧ (decide (0 ≤ i) = ss.any (fun x => decide (x ∉ T)))

set_option maxRecDepth 100000 in
set_option maxHeartbeats 4000000 in
theorem indexFunc_any (w : World) (A : Option Addr) (c bt bm : Nat) (T ss : List Int) (hs : AtsIn w A ss) (hc : w.cell? ⟨bt, 0, none⟩ = some (.map (some bm))) (h : SetAt w bm T) :
    Calls Tryd.prog 65 #[.slice A ss.length c, .func (.func 44) #[] #[.pointer (some ⟨bt, 0, none⟩)]] w fun e w' => IxPost T ss e ∧ w' = w := by
  have NT := Lib.hid (fun x => notTold_any w bt bm T x hc h)
  have HS := Lib.hid hs
  have sl := hs.len
  clear hs hc h
  go_enter Tryd.func65, Tryd.ntmps65
  go_wp2_with (fail)
  go_loopw [8] (fun p W => ∃ i : Nat, p = .int .i64 (i : Int) ∧ i ≤ ss.length ∧ W = w ∧ Hid (∀ x ∈ ss.take i, x ∈ T)) (fun p _ => ss.length - (intOf p).toNat)
  case atStart => exact ⟨0, rfl, Nat.zero_le _, by first | rfl | trivial, fun x hx => by simp at hx⟩
  case round =>
    obtain ⟨i, rfl, hi, rfl, hT⟩ := hrel
    by_cases hlt : i < ss.length
    · obtain ⟨b, off, rfl, c0⟩ := HS.out.at_ i hlt
      obtain ⟨x, hx⟩ : ∃ x, x = ss[i] := ⟨_, rfl⟩
      have tk := Lib.hid (List.take_append_getElem hlt)
      have mem := Lib.hid (List.getElem_mem hlt)
      rw [← hx] at c0 tk mem
      clear hx
      have di : decide ((i : Int) < (ss.length : Int)) = true := by simp; omega
      have bi : (i : Int) < (ss.length : Int) := by omega
      by_cases hxT : x ∈ T
      · have nx : Hid (∀ y ∈ ss.take (i + 1), y ∈ T) := fun y hy => by
          rw [← tk.out] at hy
          rcases List.mem_append.1 hy with hy | hy
          · exact hT.out y hy
          · rw [List.mem_singleton.1 hy]; exact hxT
        have ed : Hid (decide (x ∉ T) = false) := show _ = _ by simp [hxT]
        clear hxT
        go_wp2_with (go_at_call 44; refine (NT.out x).mono ?_; rintro e W ⟨rfl, rfl⟩; rw [ed.out])
        go_roundw
        case rel => exact ⟨i + 1, by go_num, by omega, by first | rfl | trivial, nx.out⟩
        case measure => first | (simp [intOf]; done) | (simp [intOf]; omega)
      · have ed : Hid (decide (x ∉ T) = true) := show _ = _ by simp [hxT]
        have fin : Hid (decide (0 ≤ (i : Int)) = ss.any (fun x => decide (x ∉ T))) := by
          show _ = _
          rw [List.any_eq_true.2 ⟨x, mem.out, by simp [hxT]⟩]; simp
        clear hxT
        go_wp2_with (go_at_call 44; refine (NT.out x).mono ?_; rintro e W ⟨rfl, rfl⟩; rw [ed.out])
        go_ret
        exact ⟨⟨i, rfl, fin.out⟩, rfl⟩
    · have di : decide ((i : Int) < (ss.length : Int)) = false := by simp; omega
      have fin : Hid (decide (0 ≤ (-1 : Int)) = ss.any (fun x => decide (x ∉ T))) := by
        show _ = _
        have : ss.any (fun x => decide (x ∉ T)) = false := by
          rw [List.any_eq_false]
          intro x hx
          have := hT.out x (by rw [List.take_of_length_le (by omega)]; exact hx)
          simp [this]
        rw [this]; rfl
      go_wp2_with (fail)
      go_ret
      exact ⟨⟨-1, rfl, fin.out⟩, rfl⟩

set_option maxRecDepth 100000 in
set_option maxHeartbeats 4000000 in
theorem contains_any (w : World) (A : Option Addr) (c bt bm : Nat) (T ss : List Int) (r : Bool) (hs : AtsIn w A ss) (hc : w.cell? ⟨bt, 0, none⟩ = some (.map (some bm))) (h : SetAt w bm T) (hr : ss.any (fun x => decide (x ∉ T)) = r) :
    Calls Tryd.prog 43 #[.slice A ss.length c, .func (.func 44) #[] #[.pointer (some ⟨bt, 0, none⟩)]] w fun e w' => e = .returned (.bool r) ∧ w' = w := by
  have IX := Lib.hid (indexFunc_any w A c bt bm T ss hs hc h)
  have HR := Lib.hid hr
  clear hs hc h hr
  cases r with
  | true =>
    go_enter Tryd.func43, Tryd.ntmps43
    go_wp2_with (go_at_call 65; refine IX.out.mono ?_; rintro e W ⟨⟨i, rfl, hi⟩, rfl⟩; rw [HR.out] at hi)
    go_ret
    exact ⟨rfl, rfl⟩
  | false =>
    go_enter Tryd.func43, Tryd.ntmps43
    go_wp2_with (go_at_call 65; refine IX.out.mono ?_; rintro e W ⟨⟨i, rfl, hi⟩, rfl⟩; rw [HR.out] at hi)
    go_ret
    exact ⟨rfl, rfl⟩
end Go.Proofs.YtabeljpnmmfpgaaDoor

namespace Go.Proofs.YtabeljpnmmfpgaaDoor
open Go.RowKit Go.MapKept Go.Maps Go.Sort Go.Lib
set_option linter.unusedVariables false
set_option linter.unusedSimpArgs false

theorem run_clear3 (w : World) (t e ty : TypeId) (z0 z1 z2 : Value) (ht : Tryd.prog.underlying t = some (.slice e)) (hv : ∀ w, (zeroValue e).run Tryd.prog w = .ok (.agg #[z0, z1, z2]) w) (h0 : z0.oneCell' = true) (h1 : z1.oneCell' = true) (h2 : z2.oneCell' = true) (b o c : Nat)
    (hc : ∀ j, j < 3 → (w.cell? ⟨b, o + j, none⟩).isSome = true) (hf : ∀ j, j < 3 → w.frozen? ⟨b, o + j, none⟩ = false) :
    (Builtin.clear_ #[t] ty #[.slice (some ⟨b, o, none⟩) 1 c]).run Tryd.prog w = .ok (.tuple #[]) (w.setCells b o [z0, z1, z2]) := by
  have hzc : (Builtin.zeroCells (Value.agg #[z0, z1, z2]).cells 1).toList = [z0, z1, z2] := by
    have e : (Value.agg #[z0, z1, z2]).cells = #[z0, z1, z2] := rfl
    rw [e]
    apply List.ext_getElem
    · simp [Builtin.zeroCells]
    · intro i h1 h2
      have h3 : i < 3 := by simpa using h2
      have h4 : i = 0 ∨ i = 1 ∨ i = 2 := by omega
      rcases h4 with rfl | rfl | rfl <;> simp [Builtin.zeroCells]
  have hst := run_storeCells_cells (P := Tryd.prog) b o [z0, z1, z2] 0 w (by simpa using hc) (by simpa using hf) (by intro v hv'; simp at hv'; rcases hv' with rfl | rfl | rfl <;> assumption)
  simp only [Nat.add_zero] at hst
  simp [Builtin.clear_, run_underlying ht, hv, hzc, hst]

theorem setCells_block (w : World) (g : Nat) : ∀ (vs : List Value) (o : Nat) (cur : Array Value) (t : TypeId), w.heap[g]? = some (.cells cur t (0, 0)) → ∃ cur', (w.setCells g o vs).heap[g]? = some (.cells cur' t (0, 0)) ∧ cur'.size = cur.size := by
  intro vs
  induction vs generalizing w with
  | nil => intro o cur t h; exact ⟨cur, h, rfl⟩
  | cons v r ih =>
    intro o cur t h
    have h1 := heap_set_cell h o v
    obtain ⟨cur', e1, e2⟩ := ih (w.setCell ⟨g, o, none⟩ v) (o + 1) _ t h1
    exact ⟨cur', e1, by rw [e2]; simp⟩
/-- A row of words whose first cells are told. -/
theorem rowW_block {w : World} {base g n c : Nat} {l : List WT} (h : RowW w base (.slice (some ⟨g, 0, none⟩) n c) l) : ∃ cur, w.heap[g]? = some (.cells cur 53 (0, 0)) ∧ n = l.length ∧ base ≤ g ∧ n ≤ c ∧ c ≤ maxLen ∧ cur.size = c * 3 ∧ cur.toList.take (n * 3) = l.flatMap WT.cells := by
  have h' : w.ownsRow base 53 3 (.slice (some ⟨g, 0, none⟩) n c) l.length (l.flatMap WT.cells) := h
  rcases h'.2 with ⟨e, _⟩ | ⟨g', cap, cur, e, hg, hh, h3, h4, h5, hc⟩
  · cases e
  · cases e
    exact ⟨cur, hh, rfl, hg, h3, h4, h5, hc⟩

theorem flat_erase (l : List WT) (i : Nat) (hi : i < l.length) : ∀ t, t < (l.length - 1) * 3 → ((l.eraseIdx i).flatMap WT.cells)[t]? = if i * 3 ≤ t then (l.flatMap WT.cells)[t + 3]? else (l.flatMap WT.cells)[t]? := by
  intro t ht
  have hl : (l.eraseIdx i).length = l.length - 1 := List.length_eraseIdx_of_lt hi
  have e1 := flat3 (l.eraseIdx i) (t / 3) (t % 3) (by rw [hl]; omega) (by omega)
  rw [show t / 3 * 3 + t % 3 = t by omega] at e1
  rw [e1]
  by_cases h : i * 3 ≤ t
  · rw [if_pos h]
    have e2 := flat3 l (t / 3 + 1) (t % 3) (by omega) (by omega)
    rw [show (t / 3 + 1) * 3 + t % 3 = t + 3 by omega] at e2
    rw [e2]
    have e3 : (l.eraseIdx i)[t / 3]'(by rw [hl]; omega) = l[t / 3 + 1]'(by omega) := by rw [List.getElem_eraseIdx_of_ge _ (by omega)]
    rw [e3]
  · rw [if_neg h]
    have e2 := flat3 l (t / 3) (t % 3) (by omega) (by omega)
    rw [show t / 3 * 3 + t % 3 = t by omega] at e2
    rw [e2]
    have e3 : (l.eraseIdx i)[t / 3]'(by rw [hl]; omega) = l[t / 3]'(by omega) := by rw [List.getElem_eraseIdx_of_lt _ (by omega)]
    rw [e3]

/-- What Delete leaves. -/
def DelPost (w : World) (base g n c : Nat) (l : List WT) (i : Nat) (w' : World) : Prop := RowW w' base (.slice (some ⟨g, 0, none⟩) (n - 1) c) (l.eraseIdx i) ∧ Upd w w' (fun k => k = g)
theorem delPost_mk {w : World} {base g n c : Nat} {l : List WT} {i : Nat} (h : RowW w base (.slice (some ⟨g, 0, none⟩) n c) l) (hi : i < l.length) (F : Array Value) (hF : F = (l.flatMap WT.cells).toArray) (z : List Value) (hz : z.length = 3) :
    DelPost w base g n c l i ((w.drew.setCells g (i * 3) ((l.flatMap WT.cells).drop ((i + 1) * 3))).setCells g ((n - 1) * 3) z) := by
  obtain ⟨cur, hh, rfl, hb, hc, hm, hs, ht⟩ := rowW_block h
  have szF : F.size = l.length * 3 := by rw [hF, List.size_toArray, flat3_len]
  have hold : Holds id w.drew g 0 F := by
    intro j hj
    refine ⟨?_, by show w.frozen? _ = false; simp [World.frozen?, hh]⟩
    show w.cell? _ = _
    rw [Nat.zero_add, cell_of hh]
    have e1 : (cur.toList.take (l.length * 3))[j]? = F.toList[j]? := by rw [ht, hF]
    rw [List.getElem?_take_of_lt (by omega), Array.getElem?_toList, Array.getElem?_toList, Array.getElem?_eq_getElem hj] at e1
    rw [e1, getElem!_pos F j hj]; rfl
  have e0 : w.drew = putRow id w.drew g 0 F := (putRow_self id w.drew g 0 F hold).symm
  have ln : ((l.flatMap WT.cells).drop ((i + 1) * 3)).length = l.length * 3 - (i + 1) * 3 := by rw [List.length_drop, flat3_len]
  have e1 : w.drew.setCells g (i * 3) ((l.flatMap WT.cells).drop ((i + 1) * 3)) = putRow id w.drew g 0 (setMany F (i * 3) ((l.flatMap WT.cells).drop ((i + 1) * 3))) := by
    have := setCells_putRow w.drew g 0 ((l.flatMap WT.cells).drop ((i + 1) * 3)) (i * 3) F (by rw [ln, szF]; omega)
    rw [← e0, Nat.zero_add] at this
    exact this
  have e2 := setCells_putRow w.drew g 0 z ((l.length - 1) * 3) (setMany F (i * 3) ((l.flatMap WT.cells).drop ((i + 1) * 3))) (by rw [hz, size_setMany, szF]; omega)
  rw [Nat.zero_add] at e2
  rw [e1, e2]
  obtain ⟨G, hG⟩ : ∃ G, G = setMany (setMany F (i * 3) ((l.flatMap WT.cells).drop ((i + 1) * 3))) ((l.length - 1) * 3) z := ⟨_, rfl⟩
  rw [← hG]
  have szG : G.size = l.length * 3 := by rw [hG, size_setMany, size_setMany, szF]
  have hh' : (putRow id w.drew g 0 G).heap[g]? = some (.cells (putCells id 0 G cur) 53 (0, 0)) := by
    have hd : w.drew.heap[g]? = some (.cells cur 53 (0, 0)) := hh
    simp [putRow, mapBlock, Array.getElem?_modify, hd, onCells]
  have le : (l.eraseIdx i).length = l.length - 1 := List.length_eraseIdx_of_lt hi
  refine ⟨⟨by rw [flat3_len], .inr ⟨g, c, _, by rw [le], hb, hh', by omega, hm, by simp [putCells, hs], ?_⟩⟩, ⟨rfl, rfl, rfl, (by rw [Go.Sort.size_putRow]; exact Nat.le_refl _), fun k hk hne => ?_⟩⟩
  · have tk := take_putCells cur G (by rw [szG, hs]; omega)
    apply List.ext_getElem?
    intro t
    rw [le]
    by_cases htt : t < (l.length - 1) * 3
    · rw [List.getElem?_take_of_lt htt]
      have tk2 : ((putCells id 0 G cur).toList.take G.size)[t]? = G.toList[t]? := by rw [tk]
      rw [List.getElem?_take_of_lt (by rw [szG]; omega)] at tk2
      rw [tk2, flat_erase l i hi t htt, Array.getElem?_toList, Array.getElem?_eq_getElem (by rw [szG]; omega)]
      have hg1 : G[t]'(by rw [szG]; omega) = G[t]! := (getElem!_pos G t (by rw [szG]; omega)).symm
      rw [hg1, hG, get_setMany _ _ _ t (by rw [size_setMany, szF]; omega), if_neg (by omega), get_setMany _ _ _ t (by rw [szF]; omega)]
      have fl := flat3_len l
      by_cases h3 : i * 3 ≤ t
      · rw [if_pos ⟨h3, by rw [ln]; omega⟩, if_pos h3]
        rw [getElem!_pos _ _ (by rw [ln]; omega), List.getElem_drop, List.getElem?_eq_getElem (by omega)]
        congr 1
        congr 1
        omega
      · rw [if_neg (by omega), if_neg h3, getElem!_pos F t (by rw [szF]; omega), List.getElem?_eq_getElem (by omega)]
        simp [hF]
    · rw [List.getElem?_take_eq_none (by omega), List.getElem?_eq_none (by rw [flat3_len, le]; omega)]
  · have hd : w.drew.heap[k]? = w.heap[k]? := rfl
    have : g ≠ k := fun e => hne e.symm
    simp [putRow, mapBlock, Array.getElem?_modify, this]
    exact hd

theorem infoWordS : ∃ i0, Tryd.prog.info? 53 = some i0 ∧ i0.size = 3 := by
  obtain ⟨i0, hi0, _, hz1, _⟩ := info_parts infoWord
  exact ⟨i0, hi0, hz1⟩
theorem zero_word (W : World) : (zeroValue 53).run Tryd.prog W = .ok (.agg #[.int .u16 0, .slice none 0 0, .slice none 0 0]) W := by kernel_rfl

set_option maxRecDepth 100000 in
set_option maxHeartbeats 4000000 in
theorem delete_any (w : World) (base g n c : Nat) (l : List WT) (i : Nat) (h : RowW w base (.slice (some ⟨g, 0, none⟩) n c) l) (hi : i < n) (hn : n ≤ 1000000) :
    Calls Tryd.prog 45 #[.slice (some ⟨g, 0, none⟩) n c, .int .i64 (i : Int), .int .i64 ((i : Int) + 1)] w fun e w' => e = .returned (.slice (some ⟨g, 0, none⟩) (n - 1) c) ∧ DelPost w base g n c l i w' := by
  obtain ⟨cur, hh, hnl, hb, hc, hm, hs, ht⟩ := rowW_block h
  obtain ⟨i0, hi0, hz1⟩ := infoWordS
  have hil : i < l.length := by omega
  have FIN := Lib.hid (delPost_mk h hil _ rfl [.int .u16 0, .slice none 0 0, .slice none 0 0] rfl)
  obtain ⟨news, hnews⟩ : ∃ news, news = (l.flatMap WT.cells).drop ((i + 1) * 3) := ⟨_, rfl⟩
  rw [← hnews] at FIN
  have fl := flat3_len l
  have ln : news.length = (n - (i + 1)) * 3 := by rw [hnews, List.length_drop, fl]; omega
  have cl : ∀ j, j < n * 3 → ∃ u, (l.flatMap WT.cells)[j]? = some u ∧ w.drew.cell? ⟨g, j, none⟩ = some u := fun j hj => by
    have hj' : j < (l.flatMap WT.cells).length := by rw [fl]; omega
    refine ⟨_, List.getElem?_eq_getElem hj', ?_⟩
    show w.cell? _ = _
    rw [cell_of hh, ← Array.getElem?_toList]
    have e1 : (cur.toList.take (n * 3))[j]? = (l.flatMap WT.cells)[j]? := by rw [ht]
    rw [List.getElem?_take_of_lt hj] at e1
    rw [e1]
    exact List.getElem?_eq_getElem hj'
  have fz : ∀ j, w.drew.frozen? ⟨g, j, none⟩ = false := fun j => by show w.frozen? _ = false; exact free_of hh j
  have one : Hid (∀ u ∈ news, u.oneCell' = true) := fun u hu => by
    rw [hnews] at hu
    obtain ⟨x, _, hx⟩ := List.mem_flatMap.1 (List.mem_of_mem_drop hu)
    simp [WT.cells, WT.vi, WT.vc] at hx
    rcases hx with rfl | rfl | rfl <;> rfl
  obtain ⟨AD, hAD, hsrc⟩ : ∃ AD : Addr, (if c = i + 1 then some (⟨g, 0, none⟩ : Addr) else some ⟨g, (i + 1) * 3, none⟩) = some AD ∧ Hid (∀ t u, news[t]? = some u → w.drew.cell? (AD.add t) = some u) := by
    by_cases hcc : c = i + 1
    · refine ⟨⟨g, 0, none⟩, by rw [if_pos hcc], fun t u hu => ?_⟩
      have h0 : news.length = 0 := by rw [ln]; omega
      rw [List.length_eq_zero_iff.1 h0] at hu
      simp at hu
    · refine ⟨⟨g, (i + 1) * 3, none⟩, by rw [if_neg hcc], fun t u hu => ?_⟩
      have htl := (List.getElem?_eq_some_iff.1 hu).1
      obtain ⟨u', e1, e2⟩ := cl ((i + 1) * 3 + t) (by rw [ln] at htl; omega)
      rw [hnews, List.getElem?_drop, e1] at hu
      have e : (⟨g, (i + 1) * 3, none⟩ : Addr).add t = ⟨g, (i + 1) * 3 + t, none⟩ := by unfold Addr.add; split <;> simp_all
      rw [e, e2, hu]
  have spare : Hid (∀ t, t < news.length → (w.drew.cell? ⟨g, 0 + i * 3 + t, none⟩).isSome = true ∧ w.drew.frozen? ⟨g, 0 + i * 3 + t, none⟩ = false) := fun t ht' => by
    rw [Nat.zero_add]
    obtain ⟨u, _, e2⟩ := cl (i * 3 + t) (by rw [ln] at ht'; omega)
    exact ⟨by rw [e2]; rfl, fz _⟩
  have LN := Lib.hid ln
  obtain ⟨W1, hW1⟩ : ∃ W1, W1 = w.drew.setCells g (i * 3) news := ⟨_, rfl⟩
  have HW1 := Lib.hid hW1
  have keep : ∀ j, j < n * 3 → (W1.cell? ⟨g, j, none⟩).isSome = true ∧ W1.frozen? ⟨g, j, none⟩ = false := fun j hj => by
    have hd : w.drew.heap[g]? = some (.cells cur 53 (0, 0)) := hh
    obtain ⟨cur', e1, e2⟩ := setCells_block w.drew g news (i * 3) cur 53 hd
    rw [← hW1] at e1
    refine ⟨?_, free_of e1 j⟩
    rw [cell_of e1, Array.getElem?_eq_getElem (by rw [e2, hs]; omega)]; rfl
  have em : i + (n - (i + 1)) = n - 1 := by omega
  have hcl : ∀ ty, (Builtin.clear_ #[30] ty #[.slice (some ⟨g, (i + (n - (i + 1))) * 3, none⟩) (n - (i + (n - (i + 1)))) (c - (i + (n - (i + 1))))]).run Tryd.prog W1 = .ok (.tuple #[]) (W1.setCells g ((n - 1) * 3) [.int .u16 0, .slice none 0 0, .slice none 0 0]) := fun ty => by
    rw [em, show n - (n - 1) = 1 by omega]
    exact run_clear3 W1 _ _ ty _ _ _ Tryd.underlying30 zero_word rfl rfl rfl g ((n - 1) * 3) _ (fun j hj => (keep _ (by omega)).1) (fun j hj => (keep _ (by omega)).2)
  have EM := Lib.hid em
  have HW : Hid (W1 = w.drew.setCells g (0 + i * 3) news) := by rw [Nat.zero_add]; exact hW1
  have hne : ((i : Int) == (i : Int) + 1) = false := by simp; omega
  have hic : i ≤ c := by omega
  have bi0 : (0 : Int) ≤ (i : Int) + 1 := by omega
  have bi1 : (i : Int) + 1 ≤ (n : Int) := by omega
  have bi2 : (i : Int) ≤ (n : Int) := by omega
  have hjc : i + 1 ≤ c := by omega
  rw [← hW1] at FIN
  clear hW1 keep cl fz ln hnews hh ht h hnl fl hs hb em HW1
  go_enter Tryd.func45, Tryd.ntmps45
  go_wp2_with (fail)
  go_region_law (refine step_append_room rfl (.tmp 22) (.tmp 25) 30 rfl 53 i0 3 Tryd.underlying30 hi0 hz1 g 0 i c (by simp [Act.eval, Act.put]) AD (n - (i + 1)) (c - (i + 1)) news (by simp [Act.eval, Act.put, hAD]) LN.out hsrc.out one.out (by omega) spare.out ?_; rw [← HW.out])
  all_goals
    go_wp2_with (fail)
    go_ret
    exact ⟨by rw [EM.out]; rfl, FIN.out⟩

set_option maxRecDepth 100000 in
set_option maxHeartbeats 4000000 in
theorem clone_nil (w : World) : Calls Tryd.prog 42 #[.slice none 0 0] w fun e w' => e = .returned (.slice none 0 0) ∧ w' = w := by
  have hnil := run_eql_slice_nil w 30 53 none 0 0 0 0 Tryd.underlying30
  go_enter Tryd.func42, Tryd.ntmps42
  go_wp2_with (fail)
  go_ret
  exact ⟨rfl, rfl⟩
set_option maxRecDepth 100000 in
set_option maxHeartbeats 4000000 in
theorem clone_some (w : World) (b g n c : Nat) (l : List WT) (h : RowW w b (.slice (some ⟨g, 0, none⟩) n c) l) (hn : n ≤ 1000000) :
    Calls Tryd.prog 42 #[.slice (some ⟨g, 0, none⟩) n c] w fun e w' => ∃ v, e = .returned v ∧ Hid (RowW w' w.heap.size v l ∧ Below w.heap.size w w') := by
  have hnil := run_eql_slice_nil w 30 53 (some ⟨g, 0, none⟩) n c 0 0 Tryd.underlying30
  obtain ⟨cur, hh, hnl, hb, hc, hm, hs, ht⟩ := rowW_block h
  obtain ⟨i0, hi0, hz0, hz1, hz2⟩ := info_parts infoWord
  have own : Hid ((w.alloc (.cells #[] 53)).ownsRow w.heap.size 53 3 (.slice (some ⟨w.heap.size, 0, none⟩) 0 0) 0 []) :=
    ⟨rfl, .inr ⟨w.heap.size, 0, #[], rfl, Nat.le_refl _, heap_alloc_at _ _, Nat.le_refl _, Nat.zero_le _, rfl, rfl⟩⟩
  have news : Hid (∀ j u, (l.flatMap WT.cells)[j]? = some u → (w.alloc (.cells #[] 53)).cell? ((⟨g, 0, none⟩ : Addr).add j) = some u) := fun j u hu => by
    have e : (⟨g, 0, none⟩ : Addr).add j = ⟨g, j, none⟩ := by unfold Addr.add; split <;> simp_all
    rw [e]
    refine cell_alloc_old ?_
    have hj := (List.getElem?_eq_some_iff.1 hu).1
    rw [flat3_len] at hj
    rw [cell_of hh, ← Array.getElem?_toList]
    have e1 : (cur.toList.take (n * 3))[j]? = (l.flatMap WT.cells)[j]? := by rw [ht]
    rw [List.getElem?_take_of_lt (by omega)] at e1
    rw [e1]; exact hu
  have one : Hid (∀ u ∈ l.flatMap WT.cells, u.oneCell' = true) := fun u hu => by
    obtain ⟨x, _, hx⟩ := List.mem_flatMap.1 hu
    simp [WT.cells, WT.vi, WT.vc] at hx
    rcases hx with rfl | rfl | rfl <;> rfl
  have LN := Lib.hid (show (l.flatMap WT.cells).length = n * 3 by rw [flat3_len, hnl])
  have fin : Hid (∀ v' w', World.ownsRow w' w.heap.size 53 3 v' (0 + n) ([] ++ l.flatMap WT.cells) → World.grownBy (w.alloc (.cells #[] 53)) w' (some w.heap.size) → RowW w' w.heap.size v' l ∧ Below w.heap.size w w') := fun v' w' ho hg => by
    rw [Nat.zero_add, hnl, List.nil_append] at ho
    have hb2 := b_alloc (Below.refl w.heap.size w) (.cells #[] 53)
    exact ⟨ho, hb2.grown hg hb2.size (fun k hk => by cases hk; exact Nat.le_refl _)⟩
  clear h hh hs ht hb hnl
  go_enter Tryd.func42, Tryd.ntmps42
  go_wp2_with (at_builtin; refine wpList_append_own_at _ rfl (.tmp 5) (.tmp 6) 30 rfl w.heap.size 53 i0 _ 3 56 Tryd.underlying30 hi0 hz0 hz1 hz2 rfl (by decide) _ 0 [] rfl own.out ⟨g, 0, none⟩ n c (l.flatMap WT.cells) rfl LN.out news.out one.out (by simp only [maxLen]; omega) (by omega) (by simp) ?_; intro v' w3 ho hgr _ _; have FF := Lib.hid (fin.out v' w3 ho hgr); clear ho hgr)
  go_ret
  exact ⟨_, rfl, FF⟩
end Go.Proofs.YtabeljpnmmfpgaaDoor

namespace Go.Proofs.YtabeljpnmmfpgaaDoor
open Go.RowKit Go.MapKept Go.Maps Go.Sort
set_option linter.unusedVariables false
set_option linter.unusedSimpArgs false

/-! ### plain -/
def rdy (T : List Int) (x : Int × List Int) : Bool := decide (x.1 ∉ T) && !(x.2.any (fun y => decide (y ∉ T)))
def better (l : List (Int × List Int)) (b : Option Nat) (x : Int) : Bool := match b with
  | none => true
  | some k => decide (x < (l.getD k (0, [])).1)
def bestStep (T : List Int) (l : List (Int × List Int)) (b : Option Nat) (i : Nat) : Option Nat := if (rdy T (l.getD i (0, [])) && better l b (l.getD i (0, [])).1) = true then some i else b
def bestOf (T : List Int) (l : List (Int × List Int)) (n : Nat) : Option Nat := (List.range n).foldl (bestStep T l) none
theorem bestOf_succ (T : List Int) (l : List (Int × List Int)) (n : Nat) : bestOf T l (n + 1) = bestStep T l (bestOf T l n) n := by unfold bestOf; rw [List.range_succ, List.foldl_append]; rfl
theorem bestOf_lt (T : List Int) (l : List (Int × List Int)) : ∀ (n k : Nat), bestOf T l n = some k → k < n
  | 0, k, h => by cases h
  | n + 1, k, h => by
    rw [bestOf_succ] at h
    unfold bestStep at h
    split at h
    · cases h; omega
    · have := bestOf_lt T l n k h; omega
def minAt (l : List (Int × List Int)) (n : Nat) : Int := (l.take n).foldl (fun m x => if x.1 < m then x.1 else m) ((l.getD 0 (0, [])).1)
theorem minAt_succ (l : List (Int × List Int)) (n : Nat) (h : n < l.length) : minAt l (n + 1) = if (l[n]).1 < minAt l n then (l[n]).1 else minAt l n := by
  unfold minAt
  rw [← List.take_append_getElem h, List.foldl_append]; rfl
/-- The order, or the least address that is left. -/
def ord : Nat → List (Int × List Int) → List Int → Option (Except Int (List Int))
  | 0, _, _ => none
  | k + 1, l, out => if l.length = 0 then some (.ok out) else match bestOf out l l.length with
    | none => some (.error (minAt l l.length))
    | some b => ord k (l.eraseIdx b) (out ++ [(l.getD b (0, [])).1])
def bI : Option Nat → Int
  | none => -1
  | some k => (k : Int)

/-! ### words that are left -/
/-- A word as it lies: its address, what it calls (read in the world w). -/
def LRep (w : World) (t : WT) (x : Int × List Int) : Prop := (t.at_.val : Int) = x.1 ∧ t.cl = x.2.length ∧ AtsIn w t.ca x.2
structure LReps (w : World) (ts : List WT) (xs : List (Int × List Int)) : Prop where
  len : ts.length = xs.length
  rep : ∀ (i : Nat) (h1 : i < ts.length) (h2 : i < xs.length), LRep w ts[i] xs[i]
theorem LReps.erase {w : World} {ts : List WT} {xs : List (Int × List Int)} (h : LReps w ts xs) (k : Nat) (hk : k < xs.length) : LReps w (ts.eraseIdx k) (xs.eraseIdx k) := by
  have l1 := List.length_eraseIdx_of_lt (l := ts) (i := k) (by rw [h.len]; exact hk)
  have l2 := List.length_eraseIdx_of_lt (l := xs) (i := k) hk
  have hl := h.len
  refine ⟨by rw [l1, l2, hl], fun i h1 h2 => ?_⟩
  by_cases hik : i < k
  · rw [List.getElem_eraseIdx_of_lt _ hik, List.getElem_eraseIdx_of_lt _ hik]; exact h.rep i _ _
  · rw [List.getElem_eraseIdx_of_ge _ (by omega), List.getElem_eraseIdx_of_ge _ (by omega)]; exact h.rep (i + 1) _ _
theorem RowW.at_ {w : World} {base n c : Nat} {A : Option Addr} {l : List WT} (h : RowW w base (.slice A n c) l) {i : Nat} (hi : i < l.length) : ∃ g, A = some ⟨g, 0, none⟩ ∧
    w.cell? ⟨g, i * 3, none⟩ = some (.int .u16 (l[i].at_.val : Int)) ∧ w.cell? ⟨g, i * 3 + 1, none⟩ = some l[i].vi ∧ w.cell? ⟨g, i * 3 + 2, none⟩ = some l[i].vc := by
  have h' : w.ownsRow base 53 3 (.slice A n c) l.length (l.flatMap WT.cells) := h
  rcases h'.2 with ⟨e, hn⟩ | ⟨g, cap, cur, e, hg, _⟩
  · omega
  · cases e
    have key : ∀ k u, k < 3 → (l[i]).cells[k]? = some u → w.cell? ⟨g, i * 3 + k, none⟩ = some u := fun k u hk hu => by
      have := h'.cells (g := g) rfl (i * 3 + k) u (by rw [flat3 l i k hi hk]; exact hu)
      have e : (⟨g, 0, none⟩ : Addr).add (i * 3 + k) = ⟨g, i * 3 + k, none⟩ := by unfold Addr.add; split <;> simp_all
      rwa [e] at this
    exact ⟨g, rfl, key 0 _ (by decide) rfl, key 1 _ (by decide) rfl, key 2 _ (by decide) rfl⟩
/-- The world while the words are ordered. -/
structure OSt (w W : World) (bt bm : Nat) (vo vl : Value) (T out : List Int) (ts : List WT) (xs : List (Int × List Int)) : Prop where
  below : Below w.heap.size w W
  res : W.heap[w.heap.size]? = some (.cells #[.int .i64 0, .int .u16 0] 33 (0, 0))
  box : W.heap[bt]? = some (.cells #[.map (some bm)] 80 (0, 0))
  told : SetAt W bm T
  num : w.heap.size < bt ∧ w.heap.size < bm ∧ bt ≠ bm
  left : RowW W (w.heap.size + 1) vl ts
  rep : LReps w ts xs
  out : RowU W (w.heap.size + 1) vo out
  apl : ∀ k, vl.ownBlock = some k → k ≠ bt ∧ k ≠ bm
  apo : ∀ k, vo.ownBlock = some k → k ≠ bt ∧ k ≠ bm ∧ vl.ownBlock ≠ some k
theorem OSt.bel {w W W' : World} {bt bm : Nat} {vo vl : Value} {T out : List Int} {ts : List WT} {xs : List (Int × List Int)} (h : OSt w W bt bm vo vl T out ts xs) (hb : Below W.heap.size W W') : OSt w W' bt bm vo vl T out ts xs :=
  ⟨b_then h.below hb, (hb.block _ (heap_lt h.res)).trans h.res, (hb.block _ (heap_lt h.box)).trans h.box, MapAt.below h.told hb, h.num, h.left.move (fun k hk => hb.block k (h.left.own k hk).1), h.rep, h.out.below hb, h.apl, h.apo⟩
theorem hh_at {w wo W : World} {bt bm : Nat} {vo vl : Value} {T out : List Int} {ts : List WT} {xs : List (Int × List Int)} (h : OSt w wo bt bm vo vl T out ts xs) (hb : Below wo.heap.size wo W) : OSt w W bt bm vo vl T out ts xs := h.bel hb
theorem OSt.tell {w W W' : World} {bt bm : Nat} {vo vl : Value} {T T' out : List Int} {ts : List WT} {xs : List (Int × List Int)} (h : OSt w W bt bm vo vl T out ts xs) (hu : Upd W W' (fun i => i = bm)) (hS : SetAt W' bm T') : OSt w W' bt bm vo vl T' out ts xs := by
  have hn := h.num
  have k : ∀ i, i < W.heap.size → i ≠ bm → W'.heap[i]? = W.heap[i]? := fun i hi hne => hu.block i hi hne
  exact ⟨h.below.trans (hu.below h.below.size (fun i hi => by omega)), (k _ (heap_lt h.res) (by omega)).trans h.res, (k _ (heap_lt h.box) (by omega)).trans h.box, hS, hn, h.left.move (fun i hi => k i (h.left.own i hi).1 (h.apl i hi).2), h.rep, h.out.move (fun i hi => k i (h.out.lt i hi).1 (h.apo i hi).2.1), h.apl, h.apo⟩
theorem OSt.put {w W W' : World} {bt bm : Nat} {vo vl : Value} {T out : List Int} {ts : List WT} {xs : List (Int × List Int)} {a : Int} {ob : Obj} {g cap n : Nat} (h : OSt w W bt bm vo vl T out ts xs) (hn : n = out.length) (hgr : World.grownBy (W.alloc ob) W' vo.ownBlock)
    (ho : W'.ownsRow (w.heap.size + 1) 23 1 (.slice (some ⟨g, 0, none⟩) (n + 1) cap) (n + 1) (out.map (Value.int .u16) ++ [.int .u16 a])) (hat : some g = vo.ownBlock ∨ W.heap.size ≤ g) : OSt w W' bt bm (.slice (some ⟨g, 0, none⟩) (n + 1) cap) vl T (out ++ [a]) ts xs := by
  have num := h.num
  have e1 : (W.alloc ob).heap.size = W.heap.size + 1 := by simp
  have kb : ∀ i, i < W.heap.size → vo.ownBlock ≠ some i → W'.heap[i]? = W.heap[i]? := fun i hi hn => (hgr.block i (by omega) (fun e => hn e.symm)).trans (Below.heap_alloc _ _ _ hi)
  have nt : vo.ownBlock ≠ some bt := fun e => (h.apo _ e).1 rfl
  have nm : vo.ownBlock ≠ some bm := fun e => (h.apo _ e).2.1 rfl
  have nr : vo.ownBlock ≠ some w.heap.size := fun e => by have := (h.out.lt _ e).2; omega
  have mlt : bm < W.heap.size := MapAt.lt h.told
  refine ⟨?_, (kb _ (heap_lt h.res) nr).trans h.res, (kb _ (heap_lt h.box) nt).trans h.box, MapAt.move h.told (kb _ mlt nm), num, h.left.move (fun i hi => kb i (h.left.own i hi).1 (fun e => (h.apo i e).2.2 hi)), h.rep, ?_, h.apl, ?_⟩
  · have hb2 := b_alloc h.below ob
    exact hb2.grown hgr hb2.size (fun k hk => by have := (h.out.lt k hk).2; omega)
  · unfold RowU
    rw [show (out ++ [a]).length = n + 1 by simp [hn], List.map_append]
    exact ho
  · intro k hk
    have e : g = k := by simpa [Value.ownBlock] using hk
    subst e
    rcases hat with hat | hat
    · exact h.apo g hat.symm
    · refine ⟨fun e => ?_, fun e => ?_, fun e => ?_⟩
      · have := heap_lt h.box; omega
      · omega
      · have := (h.left.own g e).1; omega
theorem OSt.del {w W W' : World} {bt bm : Nat} {vo : Value} {T out : List Int} {ts : List WT} {xs : List (Int × List Int)} {g n c k : Nat} (h : OSt w W bt bm vo (.slice (some ⟨g, 0, none⟩) n c) T out ts xs) (hk : k < xs.length) (hd : RowW W' (w.heap.size + 1) (.slice (some ⟨g, 0, none⟩) (n - 1) c) (ts.eraseIdx k)) (hu : Upd W W' (fun i => i = g)) :
    OSt w W' bt bm vo (.slice (some ⟨g, 0, none⟩) (n - 1) c) T out (ts.eraseIdx k) (xs.eraseIdx k) := by
  have num := h.num
  have ag := h.apl g rfl
  have go := (h.left.own g rfl)
  have kb : ∀ i, i < W.heap.size → i ≠ g → W'.heap[i]? = W.heap[i]? := fun i hi hn => hu.block i hi hn
  exact ⟨h.below.trans (hu.below h.below.size (fun i hi => by omega)), (kb _ (heap_lt h.res) (by omega)).trans h.res, (kb _ (heap_lt h.box) (fun e => ag.1 e.symm)).trans h.box, MapAt.move h.told (kb _ (MapAt.lt h.told) (fun e => ag.2 e.symm)), num, hd, h.rep.erase k hk, h.out.move (fun i hi => kb i (h.out.lt i hi).1 (fun e => (h.apo i hi).2.2 (by rw [e]; rfl))), h.apl, h.apo⟩
theorem infoU16 : (Tryd.prog.info? 23).map (fun i => (i.zero, i.size, i.bytes)) = some (some (.int .u16 0), 1, 2) := by kernel_rfl
theorem news1 (W : World) {g : Nat} {v0 : Value} {t : TypeId} (h : W.heap[g]? = some (.cells #[v0] t (0, 0))) : ∀ (j : Nat) (u : Value), [v0][j]? = some u → W.cell? ((⟨g, 0, none⟩ : Addr).add j) = some u := by
  intro j u hu
  have e : (⟨g, 0, none⟩ : Addr).add j = ⟨g, j, none⟩ := by unfold Addr.add; split <;> simp_all
  rw [e, cell_of h j]
  simpa using hu
/-- What Order answers. -/
def OrdPost (w : World) (r : Except Int (List Int)) (e : Ending) (w' : World) : Prop :=
  Below w.heap.size w w' ∧ match r with
    | .error a => e = .returned (.tuple #[.slice none 0 0, .agg #[.int .i64 163, .int .u16 a]])
    | .ok out => ∃ v, e = .returned (.tuple #[v, .agg #[.int .i64 0, .int .u16 0]]) ∧ RowU w' w.heap.size v out

theorem MapAt.put_run {P : Program} {w : World} {t k e : TypeId} (ht : P.underlying t = some (.map k e)) (hk : P.underlying k = some (.int .u16))
    {r : Nat} {f : Int → Option Value} (H : MapAt w r f) (n : Int) (hn : 0 ≤ n ∧ n < 65536) (val : Value) :
    ∃ w', (Instr.mapUpdate t (.map (some r)) (.int .u16 n) val).run P w = .ok () w' ∧ MapAt w' r (fun j => if j = n then some val else f j) ∧ Upd w w' (fun i => i = r) := by
  obtain ⟨es, clk, hb, hi⟩ := H.ex
  obtain ⟨es', clk', hrun, H', h1, h2⟩ := hi.put hb ht hk n val
  have hlt := heap_lt hb
  exact ⟨_, hrun, ⟨⟨es', clk', by simp [hlt], H'⟩, fun j u hj => by
    split at hj
    · rename_i e; subst e; exact hn
    · exact H.dom j u hj⟩, upd_map _ _⟩

set_option maxRecDepth 100000 in
set_option maxHeartbeats 8000000 in
theorem order_some (w : World) (v : Value) (b0 : Nat) (ts : List WT) (xs : List (Int × List Int)) (hv : RowW w b0 v ts) (hr : LReps w ts xs) (hl : xs.length ≤ 20000) (k : Nat) (r : Except Int (List Int)) (hw : ord k xs [] = some r) :
    Calls Tryd.prog 26 #[v] w fun e w' => OrdPost w r e w' := by
  have HW := Lib.hid hw
  have HR := Lib.hid hr
  have hmm := @run_makeMap Tryd.prog
  have tl : ts.length ≤ 20000 := by rw [hr.len]; exact hl
  have CLV : Hid (∀ W, Below w.heap.size w W → Calls Tryd.prog 42 #[v] W fun e w' => ∃ v', e = .returned v' ∧ Hid (RowW w' W.heap.size v' ts ∧ Below W.heap.size W w')) := fun W hb => by
    have hv' := hv.move (fun k hk => hb.block k (hv.own k hk).1)
    rcases hv'.2 with ⟨rfl, hn⟩ | ⟨g, cap, cur, rfl, hg, _⟩
    · refine (clone_nil W).mono ?_
      rintro e w' ⟨rfl, rfl⟩
      have : ts = [] := List.eq_nil_of_length_eq_zero hn
      subst this
      exact ⟨_, rfl, World.ownsRow_nil _ _ _ _, Below.refl _ _⟩
    · exact clone_some W b0 g ts.length cap ts hv' (by omega)
  have b1 := Lib.hid (b_alloc (Below.refl w.heap.size w) (.cells #[.int .i64 0, .int .u16 0] 33))
  have r0 := Lib.hid (heap_alloc_at w (.cells #[.int .i64 0, .int .u16 0] 33))
  clear hw hr
  go_enter Tryd.func26, Tryd.ntmps26
  go_wp2_with (fail)
  refine (CLV.out _ b1.out).mono ?_
  rintro e W1 ⟨vl, rfl, hq⟩
  have B2 := Lib.hid (b_then b1.out hq.out.2)
  have R2 := Lib.hid ((hq.out.2.block _ (by simp)).trans r0.out)
  have sz1 : w.heap.size + 1 ≤ W1.heap.size := by have := hq.out.2.size; simpa using this
  go_wp2_with (fail)
  have START : Hid (OSt w ((W1.alloc (.map #[] 0)).alloc (.cells #[.map (some W1.heap.size)] 80)) (W1.heap.size + 1) W1.heap.size (.slice none 0 0) vl [] [] ts xs) := by
    have q1 : (World.alloc W1 (.map #[] 0)).heap.size = W1.heap.size + 1 := by simp
    have hB3 : Below W1.heap.size W1 ((W1.alloc (.map #[] 0)).alloc (.cells #[.map (some W1.heap.size)] 80)) := b_alloc (b_alloc (Below.refl _ _) _) _
    have le : w.heap.size + 1 ≤ (World.alloc w (.cells #[.int .i64 0, .int .u16 0] 33)).heap.size := by simp
    refine ⟨b_then B2.out hB3, (hB3.block _ (by omega)).trans R2.out, alloc_at _ q1, ?_, ⟨by omega, by omega, by omega⟩, ?_, HR.out, RowU.nil _ _, fun k hk => ?_, fun k hk => by cases hk⟩
    · exact MapAt.ext (f := fun _ => none) ⟨⟨#[], 0, heap_alloc_old (alloc_at _ rfl), IMap.empty _⟩, fun _ _ h => by cases h⟩ (fun n => by simp [setFn])
    · exact (hq.out.1.lower le).move (fun k hk => hB3.block k (hq.out.1.own k hk).1)
    · have := (hq.out.1.own k hk).1; omega
  clear B2 R2 hq r0 b1 CLV HR
  generalize W1.heap.size = bm at *
  clear hmm
  go_loopg [4, 5] k (fun kq vo vl W => ∃ (out : List Int) (ts : List WT) (xs : List (Int × List Int)), Hid (ord kq xs out = some r ∧ OSt w W (bm + 1) bm vo vl out out ts xs ∧ out.length + xs.length ≤ 20000))
  case atStart => exact ⟨[], ts, xs, HW.out, START.out, by simpa using hl⟩
  case round =>
    clear START HW hl tl hv
    obtain ⟨out, ts, xs, hh⟩ := hrel
    cases gk with
    | zero => exact absurd hh.out.1 (by simp [ord])
    | succ k1 =>
      obtain ⟨A, c, rfl⟩ := hh.out.2.1.left.slice
      have tlen0 := hh.out.2.1.rep.len
      have lim := hh.out.2.2
      generalize hn : ts.length = n at *
      have HN := Lib.hid hn
      have tlen : Hid (n = xs.length) := tlen0
      clear hn tlen0
      by_cases hx0 : xs.length = 0
      · have hre : r = .ok out := by
          have := hh.out.1
          unfold ord at this
          rw [if_pos hx0] at this
          exact (Option.some.inj this).symm
        subst hre
        obtain rfl : n = 0 := by have := tlen.out; omega
        obtain ⟨⟨x3, x4⟩, y3, y4⟩ := cells2 hh.out.2.1.res
        have HS := Lib.hid hh.out.2.1
        clear hh
        go_wp2_with (fail)
        refine tail_ws HS.out.res (Nat.le_refl _) HS.out.below ?_
        intro V g7 hB hU
        obtain ⟨⟨m3, m4⟩, _⟩ := cells2 g7
        obtain ⟨Ao, co, rfl⟩ := HS.out.out.slice
        refine bodyPost_ret (v := .tuple #[.slice Ao out.length co, .agg #[.int .i64 0, .int .u16 0]]) (by simp [results, Tryd.results26, go_sem, m3, m4]) rfl ⟨hB, _, rfl, ?_⟩
        exact (HS.out.out.move (fun k hk => hU.block k (HS.out.out.lt k hk).1 (by have := (HS.out.out.lt k hk).2; omega))).lower (by omega)
      · have n0 : 0 < n := by have := tlen.out; omega
        have dn : decide (0 < n) = true := decide_eq_true n0
        go_wp2_with (fail)
        obtain ⟨wo, hwo⟩ : ∃ wo : World, wo = wr := ⟨_, rfl⟩
        have BR := Lib.hid (show Below wo.heap.size wo wr by rw [hwo]; exact Below.refl _ _)
        have HH : Hid (ord (k1 + 1) xs out = some r ∧ OSt w wo (bm + 1) bm u4 (.slice A n c) out out ts xs ∧ out.length + xs.length ≤ 20000) := by rw [hwo]; exact hh.out
        clear hh hwo
        go_loopw [7, 22] (fun p q W => ∃ i : Nat, p = .int .i64 (bI (bestOf out xs i)) ∧ q = .int .i64 (i : Int) ∧ i ≤ n ∧ Hid (Below wo.heap.size wo W)) (fun _ q _ => n - (intOf q).toNat)
        case atStart => exact ⟨0, rfl, rfl, Nat.zero_le _, BR.out⟩
        case round =>
          obtain ⟨i, rfl, rfl, hi, hb⟩ := hrel
          by_cases hlt : i < n
          · have hlx : i < xs.length := by have := tlen.out; omega
            have st := hh_at HH.out.2.1 hb.out
            have hlt' : i < ts.length := by rw [HN.out]; exact hlt
            obtain ⟨g, rfl, c0, c1, c2⟩ := st.left.at_ hlt'
            have hrp := HH.out.2.1.rep.rep i hlt' hlx
            have sdef : bestOf out xs (i + 1) = bestStep out xs (bestOf out xs i) i := bestOf_succ _ _ _
            have gd : xs.getD i (0, []) = xs[i] := by rw [List.getD_eq_getElem?_getD, List.getElem?_eq_getElem hlx]; rfl
            unfold bestStep at sdef
            rw [gd] at sdef
            obtain ⟨t, ht⟩ : ∃ t, t = ts[i] := ⟨_, rfl⟩
            obtain ⟨x, hx⟩ : ∃ x, x = xs[i] := ⟨_, rfl⟩
            rw [← ht] at c0 c1 c2 hrp
            rw [← hx] at hrp sdef
            obtain ⟨ta, ia, il, ic, ca, cl, cc⟩ := t
            obtain ⟨a, cs⟩ := x
            obtain ⟨h1, h2, h3⟩ := hrp
            replace h1 : (ta.val : Int) = a := h1
            replace h2 : cl = cs.length := h2
            replace h3 : AtsIn w ca cs := h3
            replace c0 : wr.cell? ⟨g, i * 3, none⟩ = some (.int .u16 a) := by rw [← h1]; exact c0
            replace c1 : wr.cell? ⟨g, i * 3 + 1, none⟩ = some (.slice ia il ic) := c1
            subst h2
            replace c2 : wr.cell? ⟨g, i * 3 + 2, none⟩ = some (.slice ca cs.length cc) := c2
            have SD := Lib.hid sdef
            clear ht hx gd h1 sdef
            have di : decide ((i : Int) < (n : Int)) = true := by simp; omega
            have bi : (i : Int) < (n : Int) := by omega
            have ST := Lib.hid (st.bel (b_alloc (Below.refl _ _) (.cells #[.int .u16 a, .slice ia il ic, .slice ca cs.length cc] 53)))
            have NB : Hid (∀ nq, Below wo.heap.size wo (World.drewN (wr.alloc (.cells #[.int .u16 a, .slice ia il ic, .slice ca cs.length cc] 53)) nq)) := fun nq => b_then hb.out (b_drewN (b_alloc (Below.refl _ _) _) nq)
            have xb : (wr.alloc (.cells #[.int .u16 a, .slice ia il ic, .slice ca cs.length cc] 53)).cell? ⟨bm + 1, 0, none⟩ = some (.map (some bm)) := by rw [cell_of ST.out.box]; rfl
            have H3 := Lib.hid (h3.below ST.out.below)
            clear h3 st
            by_cases hat : a ∈ out
            · have hlk := SetAt.in_ ST.out.told hat
              have same : Hid (bestOf out xs (i + 1) = bestOf out xs i) := by
                show _ = _
                rw [SD.out, if_neg (by simp [rdy, hat])]
              clear hat
              go_wp2_with (fail)
              go_big_quiet (fail)
              go_wp2_with (fail)
              go_roundw
              case rel => exact ⟨i + 1, by rw [same.out], by go_num, by omega, NB.out _⟩
              case measure => first | (simp [intOf]; done) | (simp [intOf]; omega)
            · have hlk := SetAt.out_ ST.out.told hat
              rcases hany : cs.any (fun y => decide (y ∉ out)) with _ | _
              · have CO := Lib.hid (contains_any _ ca cc (bm + 1) bm out cs false H3.out xb ST.out.told hany)
                have rd : rdy out (a, cs) = true := by unfold rdy; rw [hany]; simp [hat]
                rw [rd, Bool.true_and] at SD
                clear hat hany rd
                cases hbo : bestOf out xs i with
                | none =>
                  have SD2 : Hid (bestOf out xs (i + 1) = some i) := by
                    show _ = _
                    rw [SD.out, hbo]; rfl
                  clear SD hbo
                  have e1 : bI none = -1 := rfl
                  rw [e1]
                  clear e1
                  go_wp2_with (go_at_call 43; refine CO.out.mono ?_; rintro e W ⟨rfl, rfl⟩)
                  go_big_quiet (fail)
                  go_wp2_with (fail)
                  go_roundw
                  case rel => exact ⟨i + 1, by rw [SD2.out]; rfl, by go_num, by omega, NB.out _⟩
                  case measure => first | (simp [intOf]; done) | (simp [intOf]; omega)
                | some kb =>
                  have kbl := bestOf_lt _ _ _ _ hbo
                  have kbl' : kb < ts.length := by rw [HN.out]; omega
                  have kbx : kb < xs.length := by have := tlen.out; omega
                  obtain ⟨g', eg, k0, _, _⟩ := ST.out.left.at_ kbl'
                  cases eg
                  have kr := (HH.out.2.1.rep.rep kb kbl' kbx).1
                  rw [kr] at k0
                  have gd : (xs.getD kb (0, [])).1 = (xs[kb]).1 := by rw [List.getD_eq_getElem?_getD, List.getElem?_eq_getElem kbx]; rfl
                  obtain ⟨u, hu⟩ : ∃ u, u = (xs[kb]).1 := ⟨_, rfl⟩
                  rw [← hu] at k0 gd
                  have SD1 : Hid (bestOf out xs (i + 1) = if decide (a < u) = true then some i else some kb) := by
                    show _ = _
                    rw [SD.out, hbo]
                    show (if decide (a < (xs.getD kb (0, [])).1) = true then some i else some kb) = _
                    rw [gd]
                  clear SD gd hu kr hbo
                  have e1 : bI (some kb) = (kb : Int) := rfl
                  rw [e1]
                  clear e1
                  have z0 : (kb : Int) < (n : Int) := by omega
                  have z1 : decide ((kb : Int) < 0) = false := by simp
                  by_cases hau : a < u
                  · have d1 : decide (a < u) = true := by simpa using hau
                    have SD2 : Hid (bestOf out xs (i + 1) = some i) := by
                      show _ = _
                      rw [SD1.out, if_pos d1]
                    clear SD1
                    go_wp2_with (go_at_call 43; refine CO.out.mono ?_; rintro e W ⟨rfl, rfl⟩)
                    go_big_quiet (fail)
                    go_wp2_with (fail)
                    go_roundw
                    case rel => exact ⟨i + 1, by rw [SD2.out]; rfl, by go_num, by omega, NB.out _⟩
                    case measure => first | (simp [intOf]; done) | (simp [intOf]; omega)
                  · have d1 : decide (a < u) = false := by simpa using hau
                    have SD2 : Hid (bestOf out xs (i + 1) = some kb) := by
                      show _ = _
                      rw [SD1.out, if_neg (by rw [d1]; decide)]
                    clear SD1
                    go_wp2_with (go_at_call 43; refine CO.out.mono ?_; rintro e W ⟨rfl, rfl⟩)
                    go_big_quiet (fail)
                    go_wp2_with (fail)
                    go_roundw
                    case rel => exact ⟨i + 1, by rw [SD2.out]; rfl, by go_num, by omega, NB.out _⟩
                    case measure => first | (simp [intOf]; done) | (simp [intOf]; omega)
              · have CO := Lib.hid (contains_any _ ca cc (bm + 1) bm out cs true H3.out xb ST.out.told hany)
                have same : Hid (bestOf out xs (i + 1) = bestOf out xs i) := by
                  show _ = _
                  rw [SD.out, if_neg (by unfold rdy; rw [hany]; simp)]
                clear hat hany SD
                go_wp2_with (go_at_call 43; refine CO.out.mono ?_; rintro e W ⟨rfl, rfl⟩)
                go_big_quiet (fail)
                go_wp2_with (fail)
                go_roundw
                case rel => exact ⟨i + 1, by rw [same.out], by go_num, by omega, NB.out _⟩
                case measure => first | (simp [intOf]; done) | (simp [intOf]; omega)
          · have hin : i = n := by omega
            subst hin
            have ST := Lib.hid (hh_at HH.out.2.1 hb.out)
            have NXT := Lib.hid HH.out.1
            have di : decide ((i : Int) < (i : Int)) = false := by simp
            clear HH hb
            have nx : xs.length = i := tlen.out.symm
            cases hbo : bestOf out xs i with
            | none =>
              have hre : r = .error (minAt xs xs.length) := by
                have := NXT.out
                unfold ord at this
                rw [if_neg hx0, nx, hbo] at this
                rw [nx]
                exact (Option.some.inj this).symm
              subst hre
              obtain ⟨g, rfl, c0, _, _⟩ := ST.out.left.at_ (i := 0) (by rw [HN.out]; exact n0)
              have x0 : 0 < xs.length := by omega
              have t0 : 0 < ts.length := by rw [HN.out]; exact n0
              have e0 := (ST.out.rep.rep 0 t0 x0).1
              have m0 : Hid (minAt xs 0 = (xs[0]).1) := by
                show minAt xs 0 = _
                unfold minAt
                rw [List.getD_eq_getElem?_getD, List.getElem?_eq_getElem x0]; rfl
              rw [e0, ← m0.out] at c0
              simp only [Nat.zero_mul] at c0
              have lb : (0 : Int) < (i : Int) := by omega
              obtain ⟨wq, hwq⟩ : ∃ wq : World, wq = wr := ⟨_, rfl⟩
              have BQ := Lib.hid (show Below wq.heap.size wq wr by rw [hwq]; exact Below.refl _ _)
              have SQ : Hid (OSt w wq (bm + 1) bm u4 (.slice (some ⟨g, 0, none⟩) i c) out out ts xs) := by rw [hwq]; exact ST.out
              have e1 : bI none = -1 := rfl
              rw [e1]
              clear e1 hbo hwq e0 ST NXT
              go_wp2_with (fail)
              go_loopw [11, 64] (fun p q W => ∃ j : Nat, p = .int .u16 (minAt xs j) ∧ q = .int .i64 (j : Int) ∧ j ≤ i ∧ Hid (Below wq.heap.size wq W)) (fun _ q _ => i - (intOf q).toNat)
              case atStart => exact ⟨0, rfl, rfl, Nat.zero_le _, BQ.out⟩
              case round =>
                obtain ⟨j, rfl, rfl, hj, hb⟩ := hrel
                by_cases hjl : j < i
                · have hjt : j < ts.length := by rw [HN.out]; exact hjl
                  have hjx : j < xs.length := by omega
                  have st := hh_at SQ.out hb.out
                  obtain ⟨g', eg, c0, c1, c2⟩ := st.left.at_ hjt
                  cases eg
                  have ej := (st.rep.rep j hjt hjx).1
                  rw [ej] at c0
                  have ms := Lib.hid (minAt_succ xs j hjx)
                  obtain ⟨u, hu⟩ : ∃ u, u = (xs[j]).1 := ⟨_, rfl⟩
                  rw [← hu] at c0 ms
                  obtain ⟨t, ht⟩ : ∃ t, t = ts[j] := ⟨_, rfl⟩
                  rw [← ht] at c1 c2
                  clear ej ht
                  obtain ⟨ta, ia, il, ic, ca, cl, cc⟩ := t
                  replace c1 : wr.cell? ⟨g, j * 3 + 1, none⟩ = some (.slice ia il ic) := c1
                  replace c2 : wr.cell? ⟨g, j * 3 + 2, none⟩ = some (.slice ca cl cc) := c2
                  clear hu st
                  have dj : decide ((j : Int) < (i : Int)) = true := by simp; omega
                  have bj : (j : Int) < (i : Int) := by omega
                  have NB : Hid (Below wq.heap.size wq (wr.alloc (.cells #[.int .u16 u, .slice ia il ic, .slice ca cl cc] 53))) := b_alloc hb.out _
                  go_wp2_with (fail)
                  go_roundw
                  case rel => exact ⟨j + 1, by rw [ms.out]; congr 1; split <;> omega, by go_num, by omega, NB.out⟩
                  case measure => first | (simp [intOf]; done) | (simp [intOf]; omega)
                · obtain rfl : j = i := by omega
                  have dj : decide ((j : Int) < (j : Int)) = false := by simp
                  have SZ := Lib.hid (hh_at SQ.out hb.out)
                  obtain ⟨⟨x3, x4⟩, y3, y4⟩ := cells2 SZ.out.res
                  have ex : Hid (minAt xs xs.length = minAt xs j) := by rw [nx]; rfl
                  clear hb SQ
                  go_wp2_with (fail)
                  refine tail_ws SZ.out.res (Nat.le_refl _) SZ.out.below ?_
                  intro V g7 hB hU
                  obtain ⟨⟨m3, m4⟩, _⟩ := cells2 g7
                  refine bodyPost_ret (v := .tuple #[.slice none 0 0, .agg #[.int .i64 163, .int .u16 (minAt xs j)]]) (by simp [results, Tryd.results26, go_sem, m3, m4]) rfl ⟨hB, ?_⟩
                  rw [ex.out]
            | some kb =>
              have kbl := bestOf_lt _ _ _ _ hbo
              have kbt : kb < ts.length := by rw [HN.out]; exact kbl
              have kbx : kb < xs.length := by omega
              obtain ⟨g, rfl, c0, _, _⟩ := ST.out.left.at_ kbt
              have ek := (ST.out.rep.rep kb kbt kbx).1
              rw [ek] at c0
              have gd : (xs.getD kb (0, [])).1 = (xs[kb]).1 := by rw [List.getD_eq_getElem?_getD, List.getElem?_eq_getElem kbx]; rfl
              have ar : 0 ≤ (xs[kb]).1 ∧ (xs[kb]).1 < 65536 := by
                rw [← ek]
                have := (ts[kb]).at_.isLt
                omega
              obtain ⟨a, ha⟩ : ∃ a, a = (xs[kb]).1 := ⟨_, rfl⟩
              rw [← ha] at c0 gd ar
              have NX2 : Hid (ord k1 (xs.eraseIdx kb) (out ++ [a]) = some r) := by
                have := NXT.out
                unfold ord at this
                rw [if_neg hx0, nx, hbo] at this
                dsimp only at this
                rw [gd] at this
                exact this
              have EK := Lib.hid (show (((ts[kb]).at_.val : Nat) : Int) = a by rw [ek, ha])
              clear ek gd ha
              have e1 : bI (some kb) = (kb : Int) := rfl
              rw [e1]
              have z0 : (kb : Int) < (i : Int) := by omega
              have z1 : decide ((kb : Int) < 0) = false := by simp
              have xb : wr.cell? ⟨bm + 1, 0, none⟩ = some (.map (some bm)) := by rw [cell_of ST.out.box]; rfl
              have told' : Hid (SetAt wr.drew bm out) := MapAt.move ST.out.told rfl
              have SD : Hid (OSt w wr.drew (bm + 1) bm u4 (.slice (some ⟨g, 0, none⟩) i c) out out ts xs) := ST.out.bel (Below.refl _ _).drew
              obtain ⟨W2, hrun, m1, m2⟩ := MapAt.put_run (P := Tryd.prog) (t := 80) Tryd.underlying80 Tryd.underlying23 told'.out a ar (.bool true)
              have S2 := Lib.hid (SD.out.tell m2 (setAt_put_end SD.out.told m1))
              have k0 : W2.cell? ⟨g, kb * 3, none⟩ = some (.int .u16 a) := by
                obtain ⟨g', eg, d0, _, _⟩ := S2.out.left.at_ kbt
                cases eg
                rw [EK.out] at d0
                exact d0
              clear e1 hbo NXT m1 m2
              go_wp2_with (fail)
              go_region
              all_goals
                have RO := Lib.hid (show W2.ownsRow (w.heap.size + 1) 23 1 u4 out.length (out.map (Value.int .u16)) from S2.out.out)
                have hbase : w.heap.size + 1 ≤ W2.heap.size := by
                  have h1 := heap_lt S2.out.res
                  exact h1
                have hol : out.length ≤ 20000 := by omega
                obtain ⟨no, hno⟩ : ∃ no, no = out.length := ⟨_, rfl⟩
                have HNO := Lib.hid hno
                rw [← hno] at RO hol
                clear hno
                obtain ⟨i0, hi0, hz0, hz1, hz2⟩ := info_parts infoU16
                go_wp2_with (first
                  | (at_builtin; refine wpList_append_own_at _ rfl _ _ 51 rfl (w.heap.size + 1) 23 i0 _ 1 2 Tryd.underlying51 hi0 hz0 hz1 hz2 rfl (by decide) u4 no _ rfl (RO.out.alloc _) ⟨W2.heap.size, 0, none⟩ 1 1 [.int .u16 a] rfl rfl ?hnews ?hone (by simp only [maxLen]; omega) (by omega) (by simp; omega) ?_; (case hnews => exact news1 _ (heap_alloc_at _ _)); (case hone => intro u hu; simp at hu; rcases hu with rfl; rfl); intro v' W3 ho hgr _ hat; obtain ⟨g4, cap4, rfl⟩ := ownsRow_succ ho; have S3 := Lib.hid (S2.out.put HNO.out hgr ho (new_block1 hat)); clear ho hgr hat)
                  | (go_at_call 45; refine (delete_any W3 (w.heap.size + 1) g i c ts kb S3.out.left (by omega) (by omega)).mono ?_; rintro e W4 ⟨rfl, dp⟩; have S4 := Lib.hid (S3.out.del kbx dp.1 dp.2); clear dp))
                go_roundg k1
                case rel => exact ⟨_, _, _, NX2.out, S4.out, by rw [List.length_append, List.length_eraseIdx_of_lt kbx]; simp; omega⟩
                case measure => omega
end Go.Proofs.YtabeljpnmmfpgaaDoor
