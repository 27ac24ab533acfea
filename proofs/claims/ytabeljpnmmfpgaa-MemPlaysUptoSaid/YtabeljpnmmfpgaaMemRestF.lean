/-
  A memory that was restored from its own image is that memory again, without its tones.
  A memory restored from the other one's image: what stands behind all.
-/
import Derived.Test.YtabeljpnmmfpgaaMemImg3
import Derived.Test.YtabeljpnmmfpgaaMemRest2
import Derived.Test.YtabeljpnmmfpgaaRefRest
import Derived.Test.YtabeljpnmmfpgaaMemPut
import Derived.Test.YtabeljpnmmfpgaaMemSpoil
namespace Go.Proofs.Ytabeljpnmmfpgaa
open Go.RowKit Go.MapKept
set_option linter.unusedVariables false
set_option linter.unusedSimpArgs false
attribute [local irreducible] bytesOf

theorem MemRep.congr {w : World} {b : Nat} {M M' : Mm} {S : Nat → Prop} (h : MemRep w b M S) (hok : M'.Ok) (hn : ∀ n, M.bank n = none → M'.bank n = none) (hs : ∀ n g, M.bank n = some g → ∃ g', M'.bank n = some g' ∧ ∀ i, i < 16384 → g' i = g i)
    (hr : ∀ i, i < 16384 → M'.ram i = M.ram i) (hc : ∀ i, i < 3072 → M'.scr i = M.scr i) (h1 : M'.chosen = M.chosen) (h2 : M'.pad = M.pad) (h3 : M'.volume = M.volume) (h4 : M'.pitch = M.pitch) (h5 : M'.time = M.time) (h6 : M'.cycle = M.cycle) (h7 : M'.tones = M.tones) : MemRep w b M' S := by
  obtain ⟨cs, bm, es, clk, bf, tv, H⟩ := h
  refine ⟨cs, bm, es, clk, bf, tv, { H with ok := hok, cell := ?_, gone := fun n hb => hn n (H.gone n hb), bank := ?_, tones := by rw [h7]; exact H.tones }⟩
  · intro k hk
    rw [H.cell k hk]
    congr 1
    unfold Mm.cell
    by_cases e0 : k = 0
    · rw [if_pos e0, if_pos e0]
    rw [if_neg e0, if_neg e0]
    by_cases e1 : k < 16385
    · rw [if_pos e1, if_pos e1, hr _ (by omega)]
    rw [if_neg e1, if_neg e1]
    by_cases e2 : k < 19457
    · rw [if_pos e2, if_pos e2, hc _ (by omega)]
    rw [if_neg e2, if_neg e2, h1, h2, h3, h4, h5, h6]
  · intro n x hx
    obtain ⟨bs, g, k1, k2, k3, k4⟩ := H.bank n x hx
    obtain ⟨g', q1, q2⟩ := hs n g k1
    exact ⟨bs, g', q1, k2, k3, fun i hi => by rw [q2 i hi]; exact k4 i hi⟩

theorem memImg_banksOk {M : Mm} {l : List Int} (hn : NumsOf M l) : banksOk (memImg M l).banks := by
  intro i hi
  rw [memImg_len] at hi
  have mem : ∀ j, j < l.length → l.getD j 0 ∈ l := fun j hj => by rw [List.getD_eq_getElem?_getD, List.getElem?_eq_getElem hj]; exact List.getElem_mem hj
  have h1 := hn.small _ (mem i hi)
  have h2 := memImg_full M l i hi
  unfold okAt
  rw [memImg_at M l i hi] at h2 ⊢
  refine ⟨?_, by dsimp only; omega, Nat.le_of_eq h2⟩
  cases i with
  | zero => unfold lastAt; rw [if_pos rfl]; dsimp only; omega
  | succ j =>
    rw [lastAt_succ, memImg_at M l j (by omega)]
    dsimp only
    have := List.pairwise_iff_getElem.1 hn.asc j (j + 1) (by omega) hi (by omega)
    rwa [List.getD_eq_getElem?_getD, List.getD_eq_getElem?_getD, List.getElem?_eq_getElem hi, List.getElem?_eq_getElem (by omega)]

theorem memImg_ok {M : Mm} {l : List Int} (hn : NumsOf M l) (hc : M.chosen < 16) : ImgOk (memImg M l) := by
  refine ⟨memImg_banksOk hn, fun i hi => memImg_full M l i (by rwa [memImg_len] at hi), ?_, ?_, hc⟩
  · exact bytesOf_length M.ram 16384
  · exact bytesOf_length M.scr 3072

theorem fresh_ok {M : Mm} (h : M.Ok) : M.fresh.Ok := ⟨h.bank, h.ram, h.scr, h.chosen, h.pad, h.volume, h.pitch, h.time⟩

/-- The memory of a memory's image. -/
theorem MemRep.ofImg {w : World} {b : Nat} {M : Mm} {l : List Int} {S : Nat → Prop} (h : MemRep w b (imgMem (memImg M l)) S) (hn : NumsOf M l) (hc : M.chosen < 16) (hok : M.Ok) : MemRep w b M.fresh S := by
  have ho := memImg_ok hn hc
  have e16 : (memImg M l).banks.length = l.length := memImg_len M l
  have at_ : ∀ i, i < l.length → ∃ gM, M.bank (l.getD i 0) = some gM ∧ (imgMem (memImg M l)).bank (l.getD i 0) = some (fun j => (bytesOf gM 16384).getD j 0) := fun i hi => by
    have hmem : l.getD i 0 ∈ l := by rw [List.getD_eq_getElem?_getD, List.getElem?_eq_getElem hi]; exact List.getElem_mem hi
    obtain ⟨gM, hg⟩ := Option.isSome_iff_exists.1 ((hn.has _).2 hmem)
    have h1 := bankOf_at ho.banks (memImg M l).banks.length i (by omega) (Nat.le_refl _)
    rw [memImg_at M l i hi] at h1
    refine ⟨gM, hg, ?_⟩
    rw [hg] at h1
    exact h1
  have none_ : ∀ n, (imgMem (memImg M l)).bank n = none → M.bank n = none := fun n hb => by
    cases hg : M.bank n with
    | none => rfl
    | some g =>
      have hm : n ∈ l := (hn.has n).1 (by rw [hg]; rfl)
      obtain ⟨i, hi, rfl⟩ := List.getElem_of_mem hm
      obtain ⟨gM, _, h2⟩ := at_ i hi
      rw [show l.getD i 0 = l[i] by rw [List.getD_eq_getElem?_getD, List.getElem?_eq_getElem hi]; rfl, hb] at h2
      cases h2
  refine h.congr (fresh_ok hok) none_ (fun n g hb => ?_) (fun i hi => ?_) (fun i hi => ?_) rfl rfl rfl rfl rfl rfl rfl
  · obtain ⟨i, hi, e⟩ := bankOf_mem (l := (memImg M l).banks) (memImg M l).banks.length n (by
      have : (imgMem (memImg M l)).bank n = bankOf (memImg M l).banks (memImg M l).banks.length n := rfl
      rw [← this, hb]; rfl)
    rw [e16] at hi
    rw [memImg_at M l i hi] at e
    dsimp only at e
    obtain ⟨gM, h1, h2⟩ := at_ i hi
    rw [e] at h1 h2
    rw [hb] at h2
    cases h2
    exact ⟨gM, h1, fun j hj => (bytesOf_at gM 16384 j hj).symm⟩
  · exact (bytesOf_at M.ram 16384 i hi).symm
  · exact (bytesOf_at M.scr 3072 i hi).symm
end Go.Proofs.Ytabeljpnmmfpgaa

namespace Go.Proofs.Ytabeljpnmmfpgaa
open Go.RowKit Go.MapKept
set_option linter.unusedVariables false
set_option linter.unusedSimpArgs false

/-- Block q holds pointers alone. -/
def AllPtr (w : World) (q : Nat) : Prop := ∀ o v, w.cell? ⟨q, o, none⟩ = some v → ∃ a, v = .pointer a
theorem allPtr_pair {W : World} {q a0 a1 a2 a3 : Nat} (h : W.heap[q]? = some (.cells #[ptr a0, ptr a1, ptr a2, ptr a3] 73 (0, 0))) : AllPtr W q := by
  intro o v hv
  rw [cell_of h] at hv
  match o, hv with
  | 0, hv => cases hv; exact ⟨_, rfl⟩
  | 1, hv => cases hv; exact ⟨_, rfl⟩
  | 2, hv => cases hv; exact ⟨_, rfl⟩
  | 3, hv => cases hv; exact ⟨_, rfl⟩
  | n + 4, hv => simp at hv

theorem BytesIn.offPtr {w w' : World} {q : Nat} (hp : AllPtr w q) (hu : ∀ b, b ≠ q → b < w.heap.size → w'.heap[b]? = w.heap[b]?) {v : Value} {l : List Int} (h : BytesIn w v l) : BytesIn w' v l := by
  obtain ⟨a, c, rfl, hn, h2⟩ := h
  refine ⟨a, c, rfl, hn, fun hl => ?_⟩
  obtain ⟨b, o, rfl, h4⟩ := h2 hl
  refine ⟨b, o, rfl, fun j hj => ?_⟩
  have hb : b ≠ q := fun e => by subst e; obtain ⟨a, ha⟩ := hp _ _ (h4 j hj); cases ha
  rw [World.cell?_of_block (hu b hb (World.block_lt_of_cell? w _ (h4 j hj)))]
  exact h4 j hj
theorem BanksIn.offPtr {w w' : World} {q : Nat} (hp : AllPtr w q) (hu : ∀ b, b ≠ q → b < w.heap.size → w'.heap[b]? = w.heap[b]?) {v : Value} {l : List (Int × List Int)} {dv : Nat → Value} (h : BanksIn w v l dv) : BanksIn w' v l dv := by
  obtain ⟨⟨a, c, rfl, h2⟩, h3, h4⟩ := h
  refine ⟨⟨a, c, rfl, fun hl => ?_⟩, fun i hi => (h3 i hi).offPtr hp hu, h4⟩
  obtain ⟨ab, ao, rfl, h5⟩ := h2 hl
  have hb : ab ≠ q := fun e => by subst e; obtain ⟨a, ha⟩ := hp _ _ (h5 0 hl).1; cases ha
  refine ⟨ab, ao, rfl, fun i hi => ?_⟩
  have hlt := World.block_lt_of_cell? w _ (h5 i hi).1
  have e : ∀ o, w'.cell? ⟨ab, o, none⟩ = w.cell? ⟨ab, o, none⟩ := fun o => World.cell?_of_block (hu ab hb hlt)
  rw [e, e]
  exact h5 i hi

/-- All is in place, and the image that was handed in is written over. -/
theorem PlayHead.restFin {W wb w1 w2 wr w3 w4 w5 w7 : World} {q base k : Nat} {M : Nat → Mm} {b c : Nat → Nat} {S T : Nat → Nat → Prop} {o : Opv} (h : PlayHead W wb q base k M b c S T o) {j : Nat} (hj : j < 2) {b' c' : Nat} {M' : Mm} (b1 : Below wb.heap.size wb w1) (b2 : Below w1.heap.size w1 w2) (br : Below w2.heap.size w2 wr)
    (b3 : Below wr.heap.size wr w3) (b4 : Below w3.heap.size w3 w4) (b5 : Below w4.heap.size w4 w5) (hm : MemNew wr w3 b' M') (hr : RefNew w4 w5 c' M')
    (hu : Upd ((w5.setCell ⟨q, j, none⟩ (ptr b')).setCell ⟨q, 2 + j, none⟩ (ptr c')) w7 (fun i => w1.heap.size ≤ i ∧ i < w2.heap.size)) (ht : M'.tones.length ≤ k + 3) (hc : M'.chosen < 16) : PlayPost W q base k (.returned (.bool true)) w7 := by
  have z1 := b1.size; have z2 := b2.size; have zr := br.size; have z3 := b3.size; have z4 := b4.size; have z5 := b5.size
  have hql : q < wb.heap.size := heap_lt h.pair.obj
  have bw5 : Below wb.heap.size wb w5 := b1.trans ((b2.mono z1).trans ((br.mono (by omega)).trans ((b3.mono (by omega)).trans ((b4.mono (by omega)).trans (b5.mono (by omega))))))
  have u6 : Upd w5 ((w5.setCell ⟨q, j, none⟩ (ptr b')).setCell ⟨q, 2 + j, none⟩ (ptr c')) (fun x => x = q) := ((Upd.refl w5 (fun x => x = q)).setCell (p := ⟨q, j, none⟩) (fun _ => rfl) _).setCell (p := ⟨q, 2 + j, none⟩) (fun _ => rfl) _
  have z6 : ((w5.setCell ⟨q, j, none⟩ (ptr b')).setCell ⟨q, 2 + j, none⟩ (ptr c')).heap.size = w5.heap.size := by simp [World.setCell]
  have far : ∀ x, x < w5.heap.size → x ≠ q → ¬ (w1.heap.size ≤ x ∧ x < w2.heap.size) → w7.heap[x]? = w5.heap[x]? := fun x hx h1 h2 => (hu.block x (by omega) h2).trans (u6.block x hx h1)
  have o5 : w5.heap[q]? = some (.cells #[ptr (b 0), ptr (b 1), ptr (c 0), ptr (c 1)] 73 (0, 0)) := (bw5.block q hql).trans h.pair.obj
  have z7 := hu.size
  obtain ⟨S', s1, s2⟩ := hm
  obtain ⟨T', t1, t2⟩ := hr
  refine h.put hj (wm := w4) (b' := b') (c' := c') (M' := M') ⟨T', t1.stays (fun x hx => far x (t2 x hx).2 (fun e => by have := (t2 x hx).1; omega) (fun e => by have := (t2 x hx).1; omega)), fun x hx => ⟨(t2 x hx).1, by have := (t2 x hx).2; omega⟩⟩ ?_ ?_
    ⟨S', s1.stays (fun x hx => ?_), fun x hx => ⟨by have := (s2 x hx).1; omega, by have := (s2 x hx).2; omega⟩⟩ (by omega) ht hc
  · rw [hu.block q (by omega) (fun e => by omega), heap_set_cell (heap_set_cell o5 j (ptr b')) (2 + j) (ptr c')]
    have : j = 0 ∨ j = 1 := by omega
    rcases this with rfl | rfl <;> rfl
  · exact ((Upd.of_below bw5 (fun x => x = q)).trans u6 (fun _ _ h => h)).trans hu (fun x hx e => by omega)
  · have a1 := (s2 x hx).1; have a2 := (s2 x hx).2
    rw [far x (by omega) (fun e => by omega) (fun e => by omega), b5.block x (by omega), b4.block x (by omega)]
end Go.Proofs.Ytabeljpnmmfpgaa
