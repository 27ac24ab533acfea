/-
  The instruction at an address: joined.
-/
import Derived.Test.YtabeljpnmmfpgaaDoorFlInstr2
namespace Go.Proofs.YtabeljpnmmfpgaaDoor
open Go.RowKit Go.MapKept
set_option linter.unusedVariables false
set_option linter.unusedSimpArgs false

theorem hasOperand_yes {o : Int} (h : hasOperand o = true) : o = 3 ∨ o = 4 ∨ o = 5 ∨ o = 7 := by
  unfold hasOperand at h
  simp at h
  omega

theorem instr_any (w : World) (A : Option Addr) (c : Nat) (code : List Int) (a : Int) (h : CodeIn w A code) (ht : Tab w) (h0 : 0 ≤ a) (h1 : a < 65536) :
    Calls Tryd.prog 52 #[.slice A code.length c, .int .u16 a] w fun e w' => e = .returned (.tuple #[(lookAt code a).1.val, .int .i64 (lookAt code a).2]) ∧ Below w.heap.size w w' := by
  have E := InstrEnv.mk' (c := c) h ht
  have hb := h.byte
  unfold lookAt
  cases hc : cellOf code a with
  | none => exact instr_fall w A c code a E h0 h1 hc
  | some t =>
    have bt := cellOf_range hb hc
    dsimp only
    cases hd : cellOf code t with
    | none => exact instr_none w A c code a t E h0 h1 bt hc hd
    | some o =>
      dsimp only
      by_cases hr : o < 1 ∨ 64 ≤ o
      · rw [if_pos hr]; exact instr_bad w A c code a t o E h0 h1 bt hc hd hr
      · rw [if_neg hr]
        by_cases n1 : o = 1
        · subst n1; rw [if_pos rfl]; exact instr_enter w A c code a t E h0 h1 bt hc hd
        · rw [if_neg n1]
          by_cases n2 : o = 2
          · subst n2
            rw [if_pos rfl]
            cases hv : cellOf code (IntKind.u16.wrap (t + 2)) with
            | none => exact instr_const0 w A c code a t E h0 h1 bt hc hd hv
            | some v => exact instr_const w A c code a t v E h0 h1 bt hc hd hv
          · rw [if_neg n2]
            cases ho : hasOperand o with
            | false =>
              rw [if_neg (by decide)]
              have n : o ≠ 4 ∧ o ≠ 5 ∧ o ≠ 7 := by
                refine ⟨?_, ?_, ?_⟩ <;> (rintro rfl; simp [hasOperand] at ho)
              exact instr_plain w A c code a t o E h0 h1 bt hc hd (by omega) (by omega) n1 n2 n.1 n.2.1 n.2.2 ho
            | true =>
              rw [if_pos rfl]
              rcases hasOperand_yes ho with rfl | rfl | rfl | rfl
              · cases hv : cellOf code (IntKind.u16.wrap (a + 2)) with
                | none => exact instr_gone3 w A c code a t E h0 h1 bt hc hd hv
                | some v =>
                  dsimp only
                  rw [if_neg (by simp)]
                  exact instr_lit w A c code a t v E h0 h1 bt hc hd hv
              · cases hv : cellOf code (IntKind.u16.wrap (a + 2)) with
                | none => exact instr_gone4 w A c code a t E h0 h1 bt hc hd hv
                | some v =>
                  have bv := cellOf_range hb hv
                  dsimp only
                  cases hu : cellOf code v with
                  | none => rw [if_pos (by simp)]; exact instr_miss4 w A c code a t v E h0 h1 bv bt hc hd hv hu
                  | some u => rw [if_neg (by simp)]; exact instr_way4 w A c code a t v u E h0 h1 bv bt hc hd hv hu
              · cases hv : cellOf code (IntKind.u16.wrap (a + 2)) with
                | none => exact instr_gone5 w A c code a t E h0 h1 bt hc hd hv
                | some v =>
                  have bv := cellOf_range hb hv
                  dsimp only
                  cases hu : cellOf code v with
                  | none => rw [if_pos (by simp)]; exact instr_miss5 w A c code a t v E h0 h1 bv bt hc hd hv hu
                  | some u => rw [if_neg (by simp)]; exact instr_way5 w A c code a t v u E h0 h1 bv bt hc hd hv hu
              · cases hv : cellOf code (IntKind.u16.wrap (a + 2)) with
                | none => exact instr_gone7 w A c code a t E h0 h1 bt hc hd hv
                | some v =>
                  have bv := cellOf_range hb hv
                  dsimp only
                  cases hu : cellOf code v with
                  | none => rw [if_pos (by simp)]; exact instr_miss7 w A c code a t v E h0 h1 bv bt hc hd hv hu
                  | some u => rw [if_neg (by simp)]; exact instr_way7 w A c code a t v u E h0 h1 bv bt hc hd hv hu
end Go.Proofs.YtabeljpnmmfpgaaDoor
