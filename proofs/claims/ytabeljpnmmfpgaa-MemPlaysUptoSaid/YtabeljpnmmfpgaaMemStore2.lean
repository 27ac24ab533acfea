/-
  (*mem.Memory).Store: what it makes of a memory.
-/
import Derived.Test.YtabeljpnmmfpgaaMemStore
namespace Go.Proofs.Ytabeljpnmmfpgaa
open Go.RowKit Go.MapKept
set_option linter.unusedVariables false

/-! ### the whole -/
def Mm.store (M : Mm) (a x : Int) : Mm :=
  if a < 16384 then M
  else if a < 32768 then (match M.bank M.chosen with | none => M | some g => { M with bank := fun m => if m = M.chosen then some (fun j => if j = (a - 16384).toNat then x else g j) else M.bank m })
  else if a < 49152 then { M with ram := fun j => if j = (a - 32768).toNat then x else M.ram j }
  else if a < 52224 then { M with scr := fun j => if j = (a - 49152).toNat then x else M.scr j }
  else if a = 65280 then { M with chosen := x % 16 }
  else if a = 65284 then { M with pitch := M.pitch / 256 * 256 + x }
  else if a = 65285 then { M with pitch := M.pitch % 256 + 256 * x }
  else if a = 65286 then { M with volume := x, tones := M.tones ++ [(M.cycle, M.pitch, x)] }
  else M

/-- What an operation on a memory leaves: it may have written that memory's own blocks and have made new ones. -/
structure MemDone (w w' : World) (b : Nat) (M' : Mm) (S : Nat → Prop) : Prop where
  upd : Upd w w' S
  rep : ∃ S', MemRep w' b M' S' ∧ ∀ i, S' i → S i ∨ w.heap.size ≤ i

theorem MemDone.same {w w' : World} {b : Nat} {M : Mm} {S : Nat → Prop} (h : MemRep w b M S) (q : Quiet w w') : MemDone w w' b M S :=
  ⟨q.upd S, S, h.quiet q, fun i hi => .inl hi⟩

set_option maxHeartbeats 1000000 in
theorem store_rep {b : Nat} {M : Mm} {S : Nat → Prop} {a x : Int} {w : World} (h : MemRep w b M S) (h0 : 0 ≤ a) (h1 : a < 65536) (hx0 : 0 ≤ x) (hx1 : x < 256) (hl : M.tones.length < 1000000000) :
    Calls Try.prog 14 #[.pointer (some ⟨b, 0, none⟩), .int .u16 a, .int .u8 x] w fun e w' => e = .returned (.tuple #[]) ∧ MemDone w w' b (M.store a x) S := by
  have h' := h
  obtain ⟨cs, bm, es, clk, bf, tv, H⟩ := h
  have nothing : M.store a x = M → Calls Try.prog 14 #[.pointer (some ⟨b, 0, none⟩), .int .u16 a, .int .u8 x] w (fun e w' => e = .returned (.tuple #[]) ∧ w' = w) →
      Calls Try.prog 14 #[.pointer (some ⟨b, 0, none⟩), .int .u16 a, .int .u8 x] w fun e w' => e = .returned (.tuple #[]) ∧ MemDone w w' b (M.store a x) S := by
    intro e hc
    rw [e]
    exact hc.mono fun e w' ⟨he, hw⟩ => ⟨he, by subst hw; exact .same h' (Quiet.refl _)⟩
  have one : ∀ (k : Nat) (v : Value), k < 19464 → (M.store a x).Ok → (∀ j, j < 19464 → (M.store a x).cell bm tv j = if j = k then v else M.cell bm tv j) → (M.store a x).bank = M.bank → (M.store a x).tones = M.tones →
      Calls Try.prog 14 #[.pointer (some ⟨b, 0, none⟩), .int .u16 a, .int .u8 x] w (fun e w' => e = .returned (.tuple #[]) ∧ w' = w.setCell ⟨b, k, none⟩ v) →
      Calls Try.prog 14 #[.pointer (some ⟨b, 0, none⟩), .int .u16 a, .int .u8 x] w fun e w' => e = .returned (.tuple #[]) ∧ MemDone w w' b (M.store a x) S := by
    intro k v hk hok hcell hb ht hc
    refine hc.mono fun e w' ⟨he, hw⟩ => ⟨he, ?_⟩
    subst hw
    exact ⟨(Upd.refl w S).setCell (fun _ => H.sb) v, S, ⟨_, _, _, _, _, _, H.set k hk v _ hok hcell hb ht⟩, fun i hi => .inl hi⟩
  by_cases c1 : a < 16384
  · exact nothing (by unfold Mm.store; rw [if_pos c1]) (store_code b a x w c1)
  by_cases c2 : a < 32768
  · have hm : w.cell? ⟨b, 0, none⟩ = some (.map (some bm)) := by rw [H.at_ 0 (by omega)]; rfl
    have hch : w.cell? ⟨b, 19457, none⟩ = some (.int .u8 M.chosen) := by rw [H.at_ 19457 (by omega)]; rfl
    cases hb : bf M.chosen with
    | none =>
      have hM : M.store a x = M := by unfold Mm.store; rw [if_neg c1, if_pos c2, H.gone _ hb]
      rw [hM]
      refine (store_nobank b bm a x w M.chosen (by omega) c2 hm hch ?_).mono fun e w' ⟨he, hw⟩ => ⟨he, .same h' hw⟩
      intro n
      exact H.imap.look_none (w := w.drewN n) H.map Try.underlying82 Try.underlying5 (zero_bank _) (by simp [hb]) true
    | some y =>
      obtain ⟨bs, g, g1, g2, g3, g4⟩ := H.bank _ _ hb
      have hM : M.store a x = { M with bank := fun m => if m = M.chosen then some (fun j => if j = (a - 16384).toNat then x else g j) else M.bank m } := by
        unfold Mm.store; rw [if_neg c1, if_pos c2, g1]
      rw [hM]
      refine (store_bank b bm y a x w M.chosen (.int .u8 (g (a - 16384).toNat)) (by omega) c2 hm hch ?_ ?_ (free_of g2 _)).mono fun e w' ⟨he, n, hw⟩ => ⟨he, ?_⟩
      · intro n
        exact H.imap.look_some (w := w.drewN n) H.map Try.underlying82 Try.underlying5 (by simp [hb]) true
      · rw [cell_of g2, g4 _ (by omega)]
      · subst hw
        refine ⟨((Upd.refl w S).drewN n).setCell (fun _ => H.sx _ _ hb) _, S, ?_, fun i hi => .inl hi⟩
        exact MemRep.quiet (w := w.setCell ⟨y, (a - 16384).toNat, none⟩ (.int .u8 x)) ⟨_, _, _, _, _, _, H.setBank hb g1 _ x ⟨hx0, hx1⟩⟩ ⟨n, rfl⟩
  by_cases c3 : a < 49152
  · have hM : M.store a x = { M with ram := fun j => if j = (a - 32768).toNat then x else M.ram j } := by unfold Mm.store; rw [if_neg c1, if_neg c2, if_pos c3]
    refine one (1 + (a - 32768).toNat) (.int .u8 x) (by omega) ?_ ?_ (by rw [hM]) (by rw [hM]) (store_ram b a x w _ (by omega) c3 (H.at_ _ (by omega)) (H.free _))
    · rw [hM]; refine { H.ok with ram := fun i => ?_ }; dsimp only; split
      · exact ⟨hx0, hx1⟩
      · exact H.ok.ram i
    · intro j hj
      rw [hM]
      unfold Mm.cell
      dsimp only
      by_cases e : j = 1 + (a - 32768).toNat
      · rw [if_pos e, if_neg (by omega), if_pos (by omega), if_pos (by omega)]
      · rw [if_neg e]
        by_cases j0 : j = 0
        · rw [if_pos j0, if_pos j0]
        · rw [if_neg j0, if_neg j0]
          by_cases j1 : j < 16385
          · rw [if_pos j1, if_pos j1, if_neg (by omega)]
          · rw [if_neg j1, if_neg j1]
  by_cases c4 : a < 52224
  · have hM : M.store a x = { M with scr := fun j => if j = (a - 49152).toNat then x else M.scr j } := by unfold Mm.store; rw [if_neg c1, if_neg c2, if_neg c3, if_pos c4]
    refine one (16385 + (a - 49152).toNat) (.int .u8 x) (by omega) ?_ ?_ (by rw [hM]) (by rw [hM]) (store_scr b a x w _ (by omega) c4 (H.at_ _ (by omega)) (H.free _))
    · rw [hM]; refine { H.ok with scr := fun i => ?_ }; dsimp only; split
      · exact ⟨hx0, hx1⟩
      · exact H.ok.scr i
    · intro j hj
      rw [hM]
      unfold Mm.cell
      dsimp only
      by_cases e : j = 16385 + (a - 49152).toNat
      · rw [if_pos e, if_neg (by omega), if_neg (by omega), if_pos (by omega), if_pos (by omega)]
      · rw [if_neg e]
        by_cases j0 : j = 0
        · rw [if_pos j0, if_pos j0]
        · rw [if_neg j0, if_neg j0]
          by_cases j1 : j < 16385
          · rw [if_pos j1, if_pos j1]
          · rw [if_neg j1, if_neg j1]
            by_cases j2 : j < 19457
            · rw [if_pos j2, if_pos j2, if_neg (by omega)]
            · rw [if_neg j2, if_neg j2]
  have L : M.store a x = (if a = 65280 then { M with chosen := x % 16 } else if a = 65284 then { M with pitch := M.pitch / 256 * 256 + x } else if a = 65285 then { M with pitch := M.pitch % 256 + 256 * x }
      else if a = 65286 then { M with volume := x, tones := M.tones ++ [(M.cycle, M.pitch, x)] } else M) := by
    unfold Mm.store; rw [if_neg c1, if_neg c2, if_neg c3, if_neg c4]
  have hp := H.ok.pitch
  have far : ∀ (M' : Mm) (k : Nat) (v : Value), 19457 ≤ k → M'.ram = M.ram → M'.scr = M.scr → (∀ j, 19457 ≤ j → j < 19464 → M'.cell bm tv j = if j = k then v else M.cell bm tv j) → ∀ j, j < 19464 → M'.cell bm tv j = if j = k then v else M.cell bm tv j := by
    intro M' k v hk h1 h2 h3 j hj
    by_cases hj' : 19457 ≤ j
    · exact h3 j hj' hj
    · rw [if_neg (by omega)]
      unfold Mm.cell
      rw [h1, h2]
      by_cases j0 : j = 0
      · rw [if_pos j0, if_pos j0]
      · rw [if_neg j0, if_neg j0]
        by_cases j1 : j < 16385
        · rw [if_pos j1, if_pos j1]
        · rw [if_neg j1, if_neg j1, if_pos (by omega), if_pos (by omega)]
  have seven : ∀ j, 19457 ≤ j → j < 19464 → j = 19457 ∨ j = 19458 ∨ j = 19459 ∨ j = 19460 ∨ j = 19461 ∨ j = 19462 ∨ j = 19463 := by intro j h1 h2; omega
  by_cases e1 : a = 65280
  · subst e1
    have hM : M.store 65280 x = { M with chosen := x % 16 } := by rw [L, if_pos rfl]
    refine one 19457 _ (by omega) ?_ ?_ (by rw [hM]) (by rw [hM]) (store_choose b x w _ ⟨hx0, hx1⟩ (H.at_ 19457 (by omega)) (H.free _))
    · rw [hM]; exact { H.ok with chosen := by dsimp only; omega }
    · rw [hM]
      refine far _ _ _ (by omega) rfl rfl (fun j k1 k2 => ?_)
      rcases seven j k1 k2 with rfl | rfl | rfl | rfl | rfl | rfl | rfl <;> rfl
  by_cases e2 : a = 65284
  · subst e2
    have hM : M.store 65284 x = { M with pitch := M.pitch / 256 * 256 + x } := by rw [L, if_neg e1, if_pos rfl]
    refine one 19460 (.int .u16 (M.pitch / 256 * 256 + x)) (by omega) ?_ ?_ (by rw [hM]) (by rw [hM]) ((store_low b x M.pitch w ⟨hx0, hx1⟩ hp (by rw [H.at_ 19460 (by omega)]; rfl) (H.free _)).mono fun e w' ⟨he, hw⟩ => ⟨he, ?_⟩)
    · rw [hM]; exact { H.ok with pitch := by dsimp only; omega }
    · rw [hM]
      refine far _ _ _ (by omega) rfl rfl (fun j k1 k2 => ?_)
      rcases seven j k1 k2 with rfl | rfl | rfl | rfl | rfl | rfl | rfl <;> rfl
    · rw [hw, u16_and_hi hp.1 hp.2, u16_or_lo (by omega) (by omega) (by omega) hx0 hx1]
  by_cases e3 : a = 65285
  · subst e3
    have hM : M.store 65285 x = { M with pitch := M.pitch % 256 + 256 * x } := by rw [L, if_neg e1, if_neg e2, if_pos rfl]
    refine one 19460 (.int .u16 (M.pitch % 256 + 256 * x)) (by omega) ?_ ?_ (by rw [hM]) (by rw [hM]) ((store_high b x M.pitch w ⟨hx0, hx1⟩ hp (by rw [H.at_ 19460 (by omega)]; rfl) (H.free _)).mono fun e w' ⟨he, hw⟩ => ⟨he, ?_⟩)
    · rw [hM]; exact { H.ok with pitch := by dsimp only; omega }
    · rw [hM]
      refine far _ _ _ (by omega) rfl rfl (fun j k1 k2 => ?_)
      rcases seven j k1 k2 with rfl | rfl | rfl | rfl | rfl | rfl | rfl <;> rfl
    · rw [hw, u16_and_lo hp.1 hp.2, u16_or_hi (by omega) (by omega) (by omega) (by omega) (by omega), Int.mul_comm x 256]
  by_cases e4 : a = 65286
  · subst e4
    have hM : M.store 65286 x = { M with volume := x, tones := M.tones ++ [(M.cycle, M.pitch, x)] } := by rw [L, if_neg e1, if_neg e2, if_neg e3, if_pos rfl]
    rw [hM]
    have hne : ∀ k, tv.ownBlock = some k → k ≠ b := by
      intro k hk
      rcases H.tones.2 with ⟨rfl, _⟩ | ⟨g', cap, cur, rfl, _, hh, _⟩
      · simp [Value.ownBlock] at hk
      · simp only [Value.ownBlock, Option.some.injEq] at hk
        subst hk
        exact heap_ne hh H.blk (cells_ne (by decide))
    refine (store_play b x M.cycle M.pitch tv _ M.tones w hl (H.at_ 19459 (by omega)) H.free (by rw [H.at_ 19462 (by omega)]; rfl) (by rw [H.at_ 19460 (by omega)]; rfl) (by rw [H.at_ 19463 (by omega)]; rfl) H.tones hne).mono fun e w' ⟨he, v', w1, w2, hw, hw1, hu, ho, hloc⟩ => ⟨he, ?_⟩
    have H1 := H.set 19459 (by omega) (.int .u8 x) { M with volume := x } { H.ok with volume := ⟨hx0, hx1⟩ } (far _ _ _ (by omega) rfl rfl (fun j k1 k2 => by
      rcases seven j k1 k2 with rfl | rfl | rfl | rfl | rfl | rfl | rfl <;> rfl)) rfl rfl
    rw [← hw1] at H1
    subst hw
    have hsz1 : w1.heap.size = w.heap.size := by rw [hw1]; simp [World.setCell]
    have hsz := hu.size
    have u01 : Upd w w1 S := by rw [hw1]; exact (Upd.refl w S).setCell (fun _ => H.sb) _
    have u02 : Upd w w2 S := u01.trans hu (fun i _ e => H.st i e)
    have tvne : ∀ {i : Nat} {o : Obj}, w1.heap[i]? = some o → (∀ c z, o ≠ .cells c 92 z) → w2.heap[i]? = some o := by
      intro i o hi ho'
      refine hu.keep hi (fun e => ?_)
      rcases H1.tones.2 with ⟨rfl, _⟩ | ⟨g', cap, cur, rfl, _, hh, _⟩
      · simp [Value.ownBlock] at e
      · simp only [Value.ownBlock, Option.some.injEq] at e
        subst e
        rw [hh] at hi
        exact ho' _ _ (Option.some.inj hi).symm
    refine ⟨u02.setCell (fun _ => H.sb) _, fun i => S i ∨ (w.heap.size ≤ i ∧ i < w2.heap.size), ?_, fun i hi => hi.imp id And.left⟩
    refine ⟨(cs.setIfInBounds 19459 (.int .u8 x)).setIfInBounds 19463 v', bm, es, clk, bf, v', ?_⟩
    have hb2 : w2.heap[b]? = some (.cells (cs.setIfInBounds 19459 (.int .u8 x)) 87 (0, 0)) := tvne H1.blk (fun c z => cells_ne (by decide))
    have far2 : ∀ {i : Nat} {o : Obj}, w2.heap[i]? = some o → (∀ c z, o ≠ .cells c 87 z) → (w2.setCell ⟨b, 19463, none⟩ v').heap[i]? = some o := fun {i o} hi ho => by
      rw [heap_set_far (heap_ne hi hb2 (ho _ _))]; exact hi
    refine { ok := ⟨H.ok.bank, H.ok.ram, H.ok.scr, H.ok.chosen, H.ok.pad, ⟨hx0, hx1⟩, H.ok.pitch, H.ok.time⟩, blk := heap_set_cell hb2 _ _, sz := by simp [H.sz], cell := ?_, map := far2 (tvne H1.map (by simp)) (by simp), imap := H.imap, gone := H.gone, bank := ?_, inj := H.inj, tones := ?_, sb := .inl H.sb, sm := .inl H.sm, sx := fun n y hy => .inl (H.sx n y hy), st := ?_, lt := ?_ }
    · intro j hj
      rw [Array.getElem?_setIfInBounds]
      by_cases e : 19463 = j
      · subst e; simp [H.sz, Mm.cell]
      · rw [if_neg e, H1.cell j hj]
        have : j < 19463 := by omega
        unfold Mm.cell
        repeat' split
        all_goals first | rfl | omega
    · intro n y hy
      obtain ⟨bs, g, k1, k2, k3⟩ := H1.bank n y hy
      exact ⟨bs, g, k1, far2 (tvne k2 (fun c z => cells_ne (by decide))) (fun c z => cells_ne (by decide)), k3⟩
    · refine ownsRow_heap ho (fun k hk => heap_set_far ?_)
      rcases ho.2 with ⟨rfl, _⟩ | ⟨g', cap, cur, rfl, _, hh, _⟩
      · simp [Value.ownBlock] at hk
      · simp only [Value.ownBlock, Option.some.injEq] at hk
        subst hk
        exact heap_ne hh hb2 (cells_ne (by decide))
    · intro k hk
      rcases hloc k hk with h | h
      · exact .inl (H.st k h)
      · exact .inr h
    · intro i hi
      have e : (w2.setCell ⟨b, 19463, none⟩ v').heap.size = w2.heap.size := by simp [World.setCell]
      rw [e]
      rcases hi with h | h
      · have := H.lt i h; omega
      · exact h.2
  exact nothing (by rw [L, if_neg e1, if_neg e2, if_neg e3, if_neg e4]) (store_else b a x w (by omega) h1 e1 e2 e3 e4)
end Go.Proofs.Ytabeljpnmmfpgaa
