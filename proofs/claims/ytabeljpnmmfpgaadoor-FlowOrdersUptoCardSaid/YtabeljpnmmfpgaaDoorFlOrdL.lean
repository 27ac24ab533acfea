/-
  FlowOrders: its calls' answers; addresses turned in place.
-/
import Derived.Test.YtabeljpnmmfpgaaDoorFlGrp
namespace Go.Proofs.YtabeljpnmmfpgaaDoor
open Go.RowKit Go.MapKept Go.Maps Go.Sort
set_option linter.unusedVariables false
set_option linter.unusedSimpArgs false

def ez : Except Int (List Int) → Int
  | .ok _ => 0
  | .error _ => 163
def ea : Except Int (List Int) → Int
  | .ok _ => 0
  | .error a => a
def lst : Except Int (List Int) → List Int
  | .ok l => l
  | .error _ => []
theorem ord_one {w w' : World} {r : Except Int (List Int)} {e : Ending} (h : OrdPost w r e w') : Below w.heap.size w w' ∧ ∃ v, e = .returned (.tuple #[v, .agg #[.int .i64 (ez r), .int .u16 (ea r)]]) ∧ RowU w' w.heap.size v (lst r) := by
  obtain ⟨b, h⟩ := h
  cases r with
  | ok out => exact ⟨b, h⟩
  | error a => exact ⟨b, _, h, RowU.nil _ _⟩
theorem rord_one {w w' : World} {r : Except Int (List Int)} {e : Ending} (h : ROrdPost w r e w') : Below w.heap.size w w' ∧ ∃ v, e = .returned (.tuple #[v, .int .i64 (ez r), .int .u16 (ea r)]) ∧ RowU w' w.heap.size v (lst r) := by
  obtain ⟨b, h⟩ := h
  cases r with
  | ok out => exact ⟨b, h⟩
  | error a => exact ⟨b, _, h, RowU.nil _ _⟩
theorem lst_len {k : Nat} {xs : List (Int × List Int)} {r : Except Int (List Int)} (h : ord k xs [] = some r) : (lst r).length ≤ xs.length := by
  cases r with
  | ok out => exact Nat.le_of_eq (behOk h).len
  | error a => exact Nat.zero_le _
/-- A word whose address is another. -/
def WT.to (t : WT) (y : Fin 65536) : WT := { t with at_ := y }
theorem flat3_to : ∀ (l : List WT) (i : Nat) (hi : i < l.length) (y : Fin 65536), (l.set i ((l[i]).to y)).flatMap WT.cells = (l.flatMap WT.cells).set (i * 3) (.int .u16 (y.val : Int))
  | x :: l, 0, _, y => by
    simp only [List.set_cons_zero, List.flatMap_cons, List.getElem_cons_zero]
    rfl
  | x :: l, i + 1, hi, y => by
    have h3 : x.cells.length = 3 := rfl
    simp only [List.set_cons_succ, List.flatMap_cons, List.getElem_cons_succ]
    rw [flat3_to l i (by simpa using hi) y, List.set_append_right _ _ (by rw [h3]; omega), h3, show (i + 1) * 3 - 3 = i * 3 by omega]
theorem own_to {w : World} {base g n c : Nat} {e : TypeId} {l : List WT} (h : w.ownsRow base e 3 (.slice (some ⟨g, 0, none⟩) n c) l.length (l.flatMap WT.cells)) (i : Nat) (hi : i < l.length) (y : Fin 65536) :
    (w.setCell ⟨g, i * 3, none⟩ (.int .u16 (y.val : Int))).ownsRow base e 3 (.slice (some ⟨g, 0, none⟩) n c) (l.set i ((l[i]).to y)).length ((l.set i ((l[i]).to y)).flatMap WT.cells) := by
  have hn : n = l.length := by
    rcases h.2 with ⟨e1, _⟩ | ⟨g', cap, cur, e1, _⟩
    · cases e1
    · injection e1
  subst hn
  rw [List.length_set, flat3_to l i hi y]
  exact own_set h (by omega)

def x2i (a : Int) : Int := bits .xor .u16 a 2
theorem x2_range (a : Int) : 0 ≤ x2i a ∧ x2i a < 65536 := by
  unfold x2i
  simp only [bits]
  exact wrap16_range _
def x2 (a : Fin 65536) : Fin 65536 := ⟨(x2i (a.val : Int)).toNat, by have := x2_range (a.val : Int); omega⟩
theorem x2_val (a : Fin 65536) : ((x2 a).val : Int) = x2i (a.val : Int) := by
  unfold x2
  exact Int.toNat_of_nonneg (x2_range _).1
def tx (t : WT) : WT := t.to (x2 t.at_)
def tf (q : FW) : FW := ⟨x2i q.at_, q.instrs, q.calls⟩
/-- The rows whose first k are turned. -/
def mapN (f : WT → WT) (ts : List WT) (k : Nat) : List WT := (ts.take k).map f ++ ts.drop k
theorem mapN_zero (f : WT → WT) (ts : List WT) : mapN f ts 0 = ts := by simp [mapN]
theorem mapN_len (f : WT → WT) (ts : List WT) (k : Nat) : (mapN f ts k).length = ts.length := by simp [mapN]; omega
theorem mapN_all (f : WT → WT) (ts : List WT) : mapN f ts ts.length = ts.map f := by simp [mapN]
theorem mapN_at {f : WT → WT} {ts : List WT} {k : Nat} (hk : k < ts.length) : (mapN f ts k)[k]'(by rw [mapN_len]; exact hk) = ts[k] := by
  unfold mapN
  rw [List.getElem_append_right (by simp; omega)]
  simp [Nat.min_eq_left (Nat.le_of_lt hk)]
theorem mapN_succ {f : WT → WT} {ts : List WT} {k : Nat} (hk : k < ts.length) : (mapN f ts k).set k (f ts[k]) = mapN f ts (k + 1) := by
  unfold mapN
  have hl : ((ts.take k).map f).length = k := by simp; omega
  rw [List.set_append_right _ _ (by omega), hl, Nat.sub_self, List.drop_eq_getElem_cons hk, List.set_cons_zero, ← List.take_append_getElem hk, List.map_append, List.append_assoc]
  rfl
theorem own_tx {w : World} {base g n c k : Nat} {e : TypeId} {ts : List WT} (h : w.ownsRow base e 3 (.slice (some ⟨g, 0, none⟩) n c) (mapN tx ts k).length ((mapN tx ts k).flatMap WT.cells)) (hk : k < ts.length) {x : Int} (hx : x = ((ts[k]).at_.val : Int)) :
    (w.setCell ⟨g, k * 3, none⟩ (.int .u16 (bits .xor .u16 x 2))).ownsRow base e 3 (.slice (some ⟨g, 0, none⟩) n c) (mapN tx ts (k + 1)).length ((mapN tx ts (k + 1)).flatMap WT.cells) := by
  have h1 := own_to h k (by rw [mapN_len]; exact hk) (x2 (ts[k]).at_)
  rw [mapN_at hk, show (ts[k]).to (x2 (ts[k]).at_) = tx ts[k] from rfl, mapN_succ hk, x2_val] at h1
  subst hx
  exact h1
theorem ordArg_tf (l : List FW) : ordArg (l.map tf) = (ordArg l).map fun x => (x2i x.1, x.2) := by
  unfold ordArg
  rw [List.map_map, List.map_map]
  rfl
theorem tx_lreps {w W : World} {ts : List WT} {l : List FW} (h : LReps w ts (ordArg l)) (hm : ∀ (i : Nat) (h1 : i < ts.length) (h2 : i < (ordArg l).length), AtsIn W (ts[i]).ca ((ordArg l)[i]).2) : LReps W (ts.map tx) (ordArg (l.map tf)) := by
  rw [ordArg_tf]
  refine ⟨by simpa using h.len, fun i h1 h2 => ?_⟩
  have h3 : i < ts.length := by simpa using h1
  have h4 : i < (ordArg l).length := by simpa using h2
  obtain ⟨p1, p2, p3⟩ := h.rep i h3 h4
  have e1 : (ts.map tx)[i] = tx ts[i] := by simp
  have e2 : ((ordArg l).map fun x => (x2i x.1, x.2))[i] = (x2i ((ordArg l)[i]).1, ((ordArg l)[i]).2) := by simp
  rw [e1, e2]
  exact ⟨by show ((x2 (ts[i]).at_).val : Int) = _; rw [x2_val, p1], p2, hm i h3 h4⟩
theorem turned_fwin {w0 W : World} {A : Option Addr} {l : List FW} {ts0 : List WT} {gt n ct base : Nat} (hF : FWin w0 A l) (hLR : LReps w0 ts0 (ordArg l))
    (hNW : ∀ ad, A = some ad → ∀ j u, (ts0.flatMap WT.cells)[j]? = some u → w0.cell? (ad.add j) = some u)
    (hIN : ∀ (i : Nat) (h1 : i < ts0.length) (h2 : i < l.length), (ts0[i]).il = (l[i]).instrs.length ∧ InsIn w0 (ts0[i]).ia (l[i]).instrs)
    (hB : Below w0.heap.size w0 W) (hX : RowX W base (.slice (some ⟨gt, 0, none⟩) n ct) (ts0.map tx)) : FWin W (some ⟨gt, 0, none⟩) (l.map tf) := fun i hi => by
  have h2 : i < l.length := by simpa using hi
  have h1 : i < ts0.length := by have := hLR.len; rw [ordArg_len] at this; omega
  have h3 : i < (ts0.map tx).length := by simpa using h1
  obtain ⟨g', eg, c0, c1, c2⟩ := hX.at_ h3
  cases eg
  obtain ⟨p1, p2, p3⟩ := hLR.rep i h1 (by rw [ordArg_len]; exact h2)
  obtain ⟨q1, q2⟩ := hIN i h1 h2
  obtain ⟨b, off, ia, ic, ca, cc, eA, wi⟩ := hF i h2
  have e1 : (ts0.map tx)[i] = tx ts0[i] := by simp
  have e2 : (l.map tf)[i] = tf l[i] := by simp
  have e3 : (ordArg l)[i]'(by rw [ordArg_len]; exact h2) = ((l[i]).at_, (l[i]).calls) := by simp [ordArg]
  rw [e3] at p1 p2 p3
  rw [e1] at c0 c1 c2
  rw [e2]
  have hv := hNW _ eA (i * 3 + 2) (ts0[i]).vc (by rw [flat3 ts0 i 2 h1 (by decide)]; rfl)
  rw [show (⟨b, off, none⟩ : Addr).add (i * 3 + 2) = ⟨b, off + i * 3 + 2, none⟩ by unfold Addr.add; simp [Nat.add_assoc]] at hv
  have hv2 := wi.c2
  rw [hv] at hv2
  have hv3 : (ts0[i]).vc = .slice ca (l[i]).calls.length cc := Option.some.inj hv2
  unfold WT.vc at hv3
  injection hv3 with f1 f2 f3
  have hr := x2_range (l[i]).at_
  refine ⟨gt, 0, (ts0[i]).ia, (ts0[i]).ic, (ts0[i]).ca, (ts0[i]).cc, rfl, hr.1, hr.2, ?_, ?_, ?_, q2.below hB, p3.below hB, wi.small, fun e => by rw [f3]; exact wi.nil (by rw [← f1, e])⟩
  · rw [Nat.zero_add, c0]
    show some (Value.int .u16 (((x2 (ts0[i]).at_).val : Nat) : Int)) = some (.int .u16 (x2i (l[i]).at_))
    rw [x2_val, p1]
  · rw [Nat.zero_add, c1]
    show some (Value.slice (ts0[i]).ia (ts0[i]).il (ts0[i]).ic) = _
    rw [q1]; rfl
  · rw [Nat.zero_add, c2]
    show some (Value.slice (ts0[i]).ca (ts0[i]).cl (ts0[i]).cc) = _
    rw [p2]; rfl
/-- Three rows of cells, each in a block of its own. -/
theorem bks3 {v0 v1 v2 : Value} {a b c d e f : Nat} (h0 : ∀ k, v0.ownBlock = some k → a ≤ k ∧ k < b) (h1 : ∀ k, v1.ownBlock = some k → c ≤ k ∧ k < d) (h2 : ∀ k, v2.ownBlock = some k → e ≤ k ∧ k < f) (hab : a ≤ b) (hbc : b ≤ c) (hcd : c ≤ d) (hde : d ≤ e) (hef : e ≤ f) : (bks [v0, v1, v2]).Nodup ∧ ∀ k ∈ bks [v0, v1, v2], a ≤ k ∧ k < f := by
  have eq : bks [v0, v1, v2] = v0.ownBlock.toList ++ (v1.ownBlock.toList ++ v2.ownBlock.toList) := by simp [bks]
  rw [eq]
  have one : ∀ (o : Option Nat), o.toList.Nodup := fun o => by cases o <;> simp
  constructor
  · refine List.nodup_append.2 ⟨one _, List.nodup_append.2 ⟨one _, one _, fun x hx y hy e => ?_⟩, fun x hx y hy e => ?_⟩
    · have := h1 x (by simpa using hx); have := h2 y (by simpa using hy); omega
    · have q0 := h0 x (by simpa using hx)
      rcases List.mem_append.1 hy with hy | hy
      · have := h1 y (by simpa using hy); omega
      · have := h2 y (by simpa using hy); omega
  · intro k hk
    rcases List.mem_append.1 hk with hk | hk
    · have := h0 k (by simpa using hk); omega
    · rcases List.mem_append.1 hk with hk | hk
      · have := h1 k (by simpa using hk); omega
      · have := h2 k (by simpa using hk); omega
end Go.Proofs.YtabeljpnmmfpgaaDoor
