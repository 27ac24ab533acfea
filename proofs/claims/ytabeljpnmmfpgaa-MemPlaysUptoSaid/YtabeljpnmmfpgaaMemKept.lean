/-
  kept of the law's text, at banks that ownBanks made and nobody has written to.
-/
import Derived.Test.YtabeljpnmmfpgaaMemOwn
namespace Go.Proofs.Ytabeljpnmmfpgaa
open Go.RowKit Go.MapKept
set_option linter.unusedVariables false
set_option linter.unusedSimpArgs false

/-- The mark behind each list, in the list's room. -/
def Marked (w : World) (l : List (Int × List Int)) (g c : Nat → Nat) : Prop := ∀ i, i < l.length → w.cell? ⟨g i, (l.getD i (0, [])).2.length, none⟩ = some (.int .u8 90) ∧ (l.getD i (0, [])).2.length + 1 ≤ c i

theorem OwnRel.marked {w wr : World} {l : List (Int × List Int)} {v : Value} {g c : Nat → Nat} (h : OwnRel w wr l l.length v g c) : Marked wr l g c := by
  intro i hi
  have ho := h.data i hi
  rcases ho.2 with ⟨h0, _⟩ | ⟨q, cap, cur, h0, hq, hh, hnc, _, hcs, ht⟩
  · cases h0
  · cases h0
    refine ⟨?_, hnc⟩
    rw [cell_of hh, ← Array.getElem?_toList]
    have : (byteCells (l.getD i (0, [])).2 ++ [.int .u8 90])[(l.getD i (0, [])).2.length]? = some (.int .u8 90) := by
      rw [List.getElem?_append_right (by simp [byteCells]), show (l.getD i (0, [])).2.length - (byteCells (l.getD i (0, [])).2).length = 0 by simp [byteCells]]; rfl
    rw [← ht, List.getElem?_take] at this
    split at this
    · exact this
    · cases this
theorem Marked.below {w w' : World} {l : List (Int × List Int)} {g c : Nat → Nat} (h : Marked w l g c) (hb : Below w.heap.size w w') : Marked w' l g c := fun i hi =>
  ⟨cell_keep hb (h i hi).1 (World.block_lt_of_cell? w _ (h i hi).1), (h i hi).2⟩

set_option maxRecDepth 100000 in
set_option maxHeartbeats 2000000 in
theorem kept_any (w : World) (v u : Value) (l : List (Int × List Int)) (g c : Nat → Nat) (du : Nat → Value) (hv : BanksIn w v l (bankSl l g c)) (hm : Marked w l g c) (hu : BanksIn w u l du) (hs : Small l) :
    Calls Try.prog 32 #[v, u] w fun e w' => e = .returned (.bool true) ∧ Quiet w w' := by
  obtain ⟨A, cap, rfl, hrow⟩ := hv.row
  obtain ⟨B, cup, rfl, huow⟩ := hu.row
  have hlen := hs.1
  have HV := Lib.hid hv; have HU := Lib.hid hu; have HR := Lib.hid hrow; have HS := Lib.hid huow; have HM := Lib.hid hm; have SM := Lib.hid hs
  clear hv hu hrow huow hm hs
  go_enter Try.func32, Try.ntmps32
  go_wp2_with (fail)
  go_loopw [9] (fun i wr => ∃ k : Nat, k ≤ l.length ∧ i = .int .i64 k ∧ Hid (Quiet w wr)) (fun i _ => l.length - (intOf i).toNat)
  case atStart => exact ⟨0, Nat.zero_le _, rfl, Quiet.refl _⟩
  case round =>
    obtain ⟨k, hk, rfl, hq⟩ := hrel
    by_cases hlt : k < l.length
    · obtain ⟨ab, ao, rfl, hcc⟩ := HR.out (by omega)
      obtain ⟨bb, bo, rfl, hcd⟩ := HS.out (by omega)
      have hx := HV.out.bytes k hlt
      have hy := HU.out.bytes k hlt
      obtain ⟨ea, ec, he, _, _⟩ := HU.out.bytes k hlt
      obtain ⟨m0, m1⟩ := HM.out k hlt
      have hsm := SM.out.2 k
      have hh := hq.out.heap
      have c0 : wr.cell? ⟨ab, ao + k * 2, none⟩ = some (.int .i64 (l.getD k (0, [])).1) := by rw [← (hcc k hlt).1]; simp only [World.cell?, hh]
      have c1 : wr.cell? ⟨ab, ao + k * 2 + 1, none⟩ = some (bankSl l g c k) := by rw [← (hcc k hlt).2]; simp only [World.cell?, hh]
      have d0 : wr.cell? ⟨bb, bo + k * 2, none⟩ = some (.int .i64 (l.getD k (0, [])).1) := by rw [← (hcd k hlt).1]; simp only [World.cell?, hh]
      have d1 : wr.cell? ⟨bb, bo + k * 2 + 1, none⟩ = some (du k) := by rw [← (hcd k hlt).2]; simp only [World.cell?, hh]
      have mk : wr.cell? ⟨g k, (l.getD k (0, [])).2.length, none⟩ = some (.int .u8 90) := by rw [← m0]; simp only [World.cell?, hh]
      have v0 : ∀ n, (convert 35 9 (bankSl l g c k)).run Try.prog (wr.drewN n) = .ok (.string (bstr (l.getD k (0, [])).2)) (wr.drewN n) := fun n =>
        run_conv_bytes Try.underlying35 Try.underlying5 Try.underlying9 (hx.quiet (hq.out.trans ⟨n, rfl⟩))
      have u0 : ∀ n, (convert 35 9 (du k)).run Try.prog (wr.drewN n) = .ok (.string (bstr (l.getD k (0, [])).2)) (wr.drewN n) := fun n =>
        run_conv_bytes Try.underlying35 Try.underlying5 Try.underlying9 (hy.quiet (hq.out.trans ⟨n, rfl⟩))
      unfold bankSl at c1 v0
      rw [he] at d1 u0
      obtain ⟨s, hs⟩ : ∃ s, s = bstr (l.getD k (0, [])).2 := ⟨_, rfl⟩
      obtain ⟨nm, hn⟩ : ∃ nm, nm = (l.getD k (0, [])).1 := ⟨_, rfl⟩
      obtain ⟨ln, hl⟩ : ∃ ln, ln = (l.getD k (0, [])).2.length := ⟨_, rfl⟩
      obtain ⟨gk, hgk⟩ : ∃ x, x = g k := ⟨_, rfl⟩
      obtain ⟨ck, hck⟩ : ∃ x, x = c k := ⟨_, rfl⟩
      rw [← hs] at v0 u0
      rw [← hn] at c0 d0
      rw [← hl] at c1 d1 v0 u0 mk m1 hsm
      rw [← hgk] at c1 v0 mk
      rw [← hck] at c1 v0 m1
      clear hs hn hl hh hcc hcd hx hy he m0 hgk hck
      have w1 : IntKind.i64.wrap (↑ln + 1) = ↑ln + 1 := by unfold IntKind.wrap; simp [IntKind.bits, IntKind.signed]; omega
      have w2 : ((↑ln + 1 : Int)).toNat = ln + 1 := by omega
      have w3 : (0 : Int) ≤ ↑ln + 1 := by omega
      go_wp2_with (fail)
      go_quiet (fail)
      clear w1 w2 w3
      go_wp2_with (fail)
      have hq2 : Hid (Quiet w (wr.drewN nq)) := hq.out.trans ⟨nq, rfl⟩
      go_roundw
      case rel => exact ⟨k + 1, hlt, by go_num, hq2⟩
      case measure => simp [intOf]; omega
    · have hke : k = l.length := by omega
      clear hke
      go_wp2_with (fail)
      go_ret
      exact ⟨rfl, hq.out⟩
end Go.Proofs.Ytabeljpnmmfpgaa
