/-
  mem.New, walked.
-/
import Derived.Test.YtabeljpnmmfpgaaMemNew
namespace Go.Proofs.Ytabeljpnmmfpgaa
open Go.RowKit Go.MapKept
set_option linter.unusedVariables false
set_option linter.unusedSimpArgs false

/-- What New leaves: a memory with the banks, or the error. -/
def NewPost (w : World) (l : List (Int × List Int)) (e : Ending) (w' : World) : Prop :=
  Below w.heap.size w w' ∧ ((banksOk l ∧ e = .returned (.tuple #[.pointer (some ⟨w.heap.size + 1, 0, none⟩), .int .i64 0]) ∧ ∃ S, MemRep w' (w.heap.size + 1) (newMem l l.length) S ∧ ∀ i, S i → w.heap.size ≤ i) ∨
    (¬ banksOk l ∧ e = .returned (.tuple #[.pointer none, .int .i64 2])))

def NewRel (w wr : World) (l : List (Int × List Int)) (k : Nat) (la : Int) : Prop := NewInv w wr l k ∧ la = lastAt l k
theorem NewRel.bad {w wr : World} {l : List (Int × List Int)} {k : Nat} {la : Int} (h : NewRel w wr l k la) {w' : World} (hw : Below wr.heap.size wr w') (hk : k < l.length) (hbad : ¬ okAt l k) : NewPost w l (.returned (.tuple #[.pointer none, .int .i64 2])) w' :=
  ⟨h.1.2.1.trans (hw.mono h.1.2.1.size), .inr ⟨fun hb => hbad (hb k hk), rfl⟩⟩
theorem NewRel.done {w wr : World} {l : List (Int × List Int)} {k : Nat} {la : Int} (h : NewRel w wr l k la) (hk : k = l.length) : NewPost w l (.returned (.tuple #[.pointer (some ⟨w.heap.size + 1, 0, none⟩), .int .i64 0])) wr := by
  subst hk
  exact ⟨h.1.2.1, .inl ⟨h.1.1, rfl, h.1.2.2⟩⟩

set_option maxRecDepth 100000 in
set_option maxHeartbeats 2000000 in
theorem new_any (w : World) (v : Value) (l : List (Int × List Int)) (dv : Nat → Value) (hb : BanksIn w v l dv) (hlen : l.length ≤ 9223372036854775807) :
    Calls Try.prog 7 #[v] w (NewPost w l) := by
  obtain ⟨A, cap, rfl, hrow⟩ := hb.row
  have hmm := @run_makeMap Try.prog
  have start := Lib.hid (new_start w l)
  have HB := Lib.hid hb
  have HR := Lib.hid hrow
  clear hb hrow
  go_enter Try.func7, Try.ntmps7
  go_wp2_with (fail)
  go_loopw [5, 14] (fun last i wr => ∃ k : Nat, ∃ la : Int, k ≤ l.length ∧ i = .int .i64 k ∧ last = .int .i64 la ∧ NewRel w wr l k la) (fun _ i _ => l.length - (intOf i).toNat)
  case atStart => exact ⟨0, -1, Nat.zero_le _, rfl, rfl, start.out, rfl⟩
  case round =>
    obtain ⟨k, la, hk, rfl, rfl, hrel⟩ := hrel
    by_cases hlt : k < l.length
    · obtain ⟨ab, ao, rfl, hcc⟩ := HR.out (by omega)
      have hbw : Below w.heap.size w wr := hrel.1.2.1
      obtain ⟨da, dc, hd, _, hdata⟩ := HB.out.bytes k hlt
      have c0 : wr.cell? ⟨ab, ao + k * 2, none⟩ = some (.int .i64 (l.getD k (0, [])).1) := cell_keep hbw (hcc k hlt).1 (World.block_lt_of_cell? w _ (hcc k hlt).1)
      have c1 : wr.cell? ⟨ab, ao + k * 2 + 1, none⟩ = some (.slice da (l.getD k (0, [])).2.length dc) := hd ▸ cell_keep hbw (hcc k hlt).2 (World.block_lt_of_cell? w _ (hcc k hlt).2)
      have hle : lastAt l k = la := hrel.2.symm
      have hlast := lastAt_ge (l := l) (k := k) hrel.1.1
      have hby := HB.out.isB k hlt
      obtain ⟨p, hp⟩ : ∃ p, p = l.getD k (0, []) := ⟨_, rfl⟩
      rw [← hp] at c0 c1 hdata hby
      have Hok : Hid (okAt l k ↔ (la < p.1 ∧ p.1 ≤ 15 ∧ p.2.length ≤ 16384)) := by unfold okAt; rw [hle, ← hp]; exact Iff.rfl
      have Hp := Lib.hid hp
      have Hrel := Lib.hid hrel
      obtain ⟨nm, ds⟩ := p
      dsimp only at c0 c1 hdata hby Hok
      by_cases n1 : nm ≤ la
      · have d1 : decide (nm ≤ la) = true := by simpa using n1
        have fin : Hid (∀ w', Below wr.heap.size wr w' → NewPost w l (.returned (.tuple #[.pointer none, .int .i64 2])) w') := fun w' hw => Hrel.out.bad hw hlt (fun h => by have := Hok.out.1 h; omega)
        clear hle hp hd hrel hbw hcc hdata
        go_wp2_with (fail)
        go_ret2
        exact fin.out _ ((Below.refl _ _).alloc (Nat.le_refl _) _)
      have d1 : decide (nm ≤ la) = false := by simpa using n1
      by_cases n2 : 16 ≤ nm
      · have d2 : decide (16 ≤ nm) = true := by simpa using n2
        have fin : Hid (∀ w', Below wr.heap.size wr w' → NewPost w l (.returned (.tuple #[.pointer none, .int .i64 2])) w') := fun w' hw => Hrel.out.bad hw hlt (fun h => by have := Hok.out.1 h; omega)
        clear hle hp hd hrel hbw hcc hdata
        go_wp2_with (fail)
        go_ret2
        exact fin.out _ ((Below.refl _ _).alloc (Nat.le_refl _) _)
      have d2 : decide (16 ≤ nm) = false := by simpa using n2
      by_cases n3 : 16384 < ds.length
      · have d3 : decide ((16384 : Int) < (ds.length : Int)) = true := by simp; omega
        have fin : Hid (∀ w', Below wr.heap.size wr w' → NewPost w l (.returned (.tuple #[.pointer none, .int .i64 2])) w') := fun w' hw => Hrel.out.bad hw hlt (fun h => by have := Hok.out.1 h; omega)
        clear hle hp hd hrel hbw hcc hdata
        go_wp2_with (fail)
        go_ret2
        exact fin.out _ ((Below.refl _ _).alloc (Nat.le_refl _) _)
      have d3 : decide ((16384 : Int) < (ds.length : Int)) = false := by simp; omega
      have hok : okAt l k := Hok.out.2 ⟨by omega, by omega, by omega⟩
      have hz : Hid (((wr.alloc (.cells #[.int .i64 nm, .slice da ds.length dc] 37)).alloc (.cells Try.zeroCells89 89)).drew.heap[wr.heap.size + 1]? = some (.cells Try.zeroCells89.toList.toArray 89 (0, 0))) := by
        have := heap_alloc_at (wr.alloc (.cells #[.int .i64 nm, .slice da ds.length dc] 37)) (.cells Try.zeroCells89 89)
        rw [show (wr.alloc (.cells #[.int .i64 nm, .slice da ds.length dc] 37)).heap.size = wr.heap.size + 1 by simp] at this
        exact this
      have hcs' : Hid ((ds.map (Value.int .u8)).length = Nat.min ds.length 16384) := by show _ = _; rw [List.length_map]; exact (Nat.min_eq_left (by omega)).symm
      have hpos : Hid (0 < (ds.map (Value.int .u8)).length → ∃ ad, da = some ad ∧ ∀ j v, (ds.map (Value.int .u8))[j]? = some v → ((wr.alloc (.cells #[.int .i64 nm, .slice da ds.length dc] 37)).alloc (.cells Try.zeroCells89 89)).drew.cell? (ad.add j) = some v) := by
        intro h0
        obtain ⟨db, dO, rfl, hdd⟩ := hdata (by simpa using h0)
        refine ⟨_, rfl, fun j v hj => ?_⟩
        rw [List.getElem?_map] at hj
        obtain ⟨x, hx, rfl⟩ := Option.map_eq_some_iff.1 hj
        obtain ⟨hjl, hjx⟩ := List.getElem?_eq_some_iff.1 hx
        have e : (⟨db, dO, none⟩ : Addr).add j = ⟨db, dO + j, none⟩ := by unfold Addr.add; split <;> simp_all
        have hd0 := hdd j hjl
        rw [List.getD_eq_getElem?_getD, hx] at hd0
        have hlt0 := World.block_lt_of_cell? w _ hd0
        have hsz := hbw.size
        rw [e]
        show ((wr.alloc _).alloc _).cell? _ = _
        exact cell_keep (B := w.heap.size) ((hbw.alloc hsz _).alloc (by simp; omega) _) hd0 hlt0
      have h1c : Hid (∀ v ∈ ds.map (Value.int .u8), v.oneCell' = true) := by
        intro v hv
        obtain ⟨x, _, rfl⟩ := List.mem_map.1 hv
        rfl
      have hfit : Hid (0 + (ds.map (Value.int .u8)).length ≤ Try.zeroCells89.toList.length) := by
        show _ ≤ _
        rw [List.length_map, show Try.zeroCells89.toList.length = 16384 from zb_size]; omega
      have after : Hid (∀ w3 : World, Below (wr.heap.size + 1) ((wr.alloc (.cells #[.int .i64 nm, .slice da ds.length dc] 37)).alloc (.cells Try.zeroCells89 89)).drew w3 → w3.heap[wr.heap.size + 1]? = some (.cells (splice Try.zeroCells89.toList 0 (ds.map (Value.int .u8))).toArray 89 (0, 0)) →
          ∃ bm, w3.cell? ⟨w.heap.size + 1, 0, none⟩ = some (.map (some bm)) ∧ w3.cell? ⟨wr.heap.size, 0, none⟩ = some (.int .i64 nm) ∧
          ∃ w4, (Instr.mapUpdate 82 (.map (some bm)) (.int .u8 (nm % 256)) (.pointer (some ⟨wr.heap.size + 1, 0, none⟩))).run Try.prog w3.drew = .ok () w4 ∧ Hid (NewRel w w4 l (k + 1) nm)) := by
        intro w3 hb3 hh
        obtain ⟨bm, q1, w4, q2, q3⟩ := new_step Hrel.out.1 hok (by rw [← Hp.out]; exact hby) _ w3 hb3 (by rw [← Hp.out]; exact hh)
        refine ⟨bm, q1, ?_, w4, by rw [← Hp.out] at q2; rw [show nm % 256 = nm by omega]; exact q2, q3, by rw [lastAt_succ, ← Hp.out]⟩
        refine cell_keep hb3 ?_ (by show wr.heap.size < _; omega)
        show ((wr.alloc _).alloc _).cell? _ = _
        rw [World.cell?_of_block (w := wr.alloc (.cells #[.int .i64 nm, .slice da ds.length dc] 37)) (Below.heap_alloc _ _ _ (by simp)), cell_of (heap_alloc_at wr _)]
        rfl
      clear hle hp hd hrel hbw hcc hdata hok hby
      go_wp2_with (fail)
      go_region_law (refine step_copy_splice rfl (.tmp 39) (.tmp 41) 35 35 rfl 5 Try.underlying35 (by kernel_rfl) (some ⟨wr.heap.size + 1, 0, none⟩) da 16384 16384 ds.length dc (by simp [Act.eval]) (by simp [Act.eval]) (wr.heap.size + 1) 0 Try.zeroCells89.toList 89 hz.out (ds.map (Value.int .u8)) hcs'.out (fun h => ⟨rfl, hpos.out h⟩) hfit.out h1c.out (wr.heap.size + 1) _ (Below.refl _ _) (Nat.le_refl _) ?_; intro w3 hh hb3; obtain ⟨bm, m1, m2, w4, hput, hnew⟩ := after.out w3 hb3 hh.out; clear hb3 hh)
      all_goals
        go_wp2_with (fail)
        go_region
        all_goals
          go_wp2_with (fail)
          go_roundw
          case rel => exact ⟨k + 1, _, hlt, by go_num, rfl, hnew.out⟩
          case measure => simp [intOf]; omega
    · have hke : k = l.length := by omega
      have fin : Hid (NewPost w l (.returned (.tuple #[.pointer (some ⟨w.heap.size + 1, 0, none⟩), .int .i64 0])) wr) := hrel.done hke
      clear hke
      go_wp2_with (fail)
      go_ret2
      exact fin.out
end Go.Proofs.Ytabeljpnmmfpgaa
