/-
  ownBanks, walked; MayBanks, may, plain.
-/
import Derived.Test.YtabeljpnmmfpgaaMemOwn
namespace Go.Proofs.Ytabeljpnmmfpgaa
open Go.RowKit Go.MapKept
set_option linter.unusedVariables false
set_option linter.unusedSimpArgs false

/-- Cells that a slice holds. -/
def CellsIn (w : World) (v : Value) (l : List Int) : Prop :=
  (∀ x ∈ l, 0 ≤ x ∧ x < 65536) ∧ ∃ a c, v = .slice a l.length c ∧ (0 < l.length → ∃ b o, a = some ⟨b, o, none⟩ ∧ ∀ j, j < l.length → w.cell? ⟨b, o + j, none⟩ = some (.int .u16 (l.getD j 0)))

/-- Nothing of the list is greater than this. -/
def Small (l : List (Int × List Int)) : Prop := l.length ≤ 2000000 ∧ ∀ i, (l.getD i (0, [])).2.length ≤ 2000000

set_option maxRecDepth 100000 in
set_option maxHeartbeats 2000000 in
theorem ownBanks_any (w : World) (v : Value) (l : List (Int × List Int)) (dv : Nat → Value) (hb : BanksIn w v l dv) (hs : Small l) :
    Calls Try.prog 8 #[v] w fun e w' => ∃ v' g c, e = .returned v' ∧ OwnRel w w' l l.length v' g c := by
  obtain ⟨i0, hi, hz0, hz1, hz2⟩ := info_parts infoU8
  obtain ⟨i1, hj, hy0, hy1, hy2⟩ := info_parts infoBank
  obtain ⟨A, cap, rfl, hrow⟩ := hb.row
  have hlen := hs.1
  have start : Hid (OwnRel w w l 0 (.slice none 0 0) (fun _ => 0) (fun _ => 0)) := ⟨Below.refl _ _, World.ownsRow_nil _ _ _ _, fun i hi => by omega, fun i j hi => by omega⟩
  have HB := Lib.hid hb
  have HR := Lib.hid hrow
  have HS := Lib.hid hs
  clear hb hrow hs
  go_enter Try.func8, Try.ntmps8
  go_wp2_with (fail)
  go_loopw [3, 9] (fun v i wr => ∃ k : Nat, k ≤ l.length ∧ i = .int .i64 k ∧ ∃ g c, OwnRel w wr l k v g c) (fun _ i _ => l.length - (intOf i).toNat)
  case atStart => exact ⟨0, Nat.zero_le _, rfl, _, _, start.out⟩
  case round =>
    obtain ⟨k, hk, rfl, g, c, hrel⟩ := hrel
    by_cases hlt : k < l.length
    · obtain ⟨ab, ao, rfl, hcc⟩ := HR.out (by omega)
      have hbw : Below w.heap.size w wr := hrel.below
      obtain ⟨da, dc, hd, hdn, hdata⟩ := HB.out.bytes k hlt
      have hbyt := HB.out.bytes k hlt
      have c0 : wr.cell? ⟨ab, ao + k * 2, none⟩ = some (.int .i64 (l.getD k (0, [])).1) := cell_keep hbw (hcc k hlt).1 (World.block_lt_of_cell? w _ (hcc k hlt).1)
      have c1 : wr.cell? ⟨ab, ao + k * 2 + 1, none⟩ = some (.slice da (l.getD k (0, [])).2.length dc) := hd ▸ cell_keep hbw (hcc k hlt).2 (World.block_lt_of_cell? w _ (hcc k hlt).2)
      have hsm := HS.out.2 k
      obtain ⟨p, hp⟩ : ∃ p, p = l.getD k (0, []) := ⟨_, rfl⟩
      rw [← hp] at c0 c1 hsm hbyt
      have Hp := Lib.hid hp
      have Hrel := Lib.hid hrel
      obtain ⟨nm, ds⟩ := p
      dsimp only at c0 c1 hsm hbyt
      have hsz := hbw.size
      have hown : Hid (BytesIn (wr.alloc (.cells #[.int .i64 nm, .slice da ds.length dc] 37)) (.slice da ds.length dc) ds) := by
        rw [hd, ← hp] at hbyt
        exact hbyt.below ((hbw.alloc hsz _).mono (Nat.le_refl _))
      clear hp hd hrel hcc hdata hdn hbyt hbw
      go_wp2_with (fail)
      refine (own_any _ _ ds (by omega) hown.out).mono ?_
      rintro e w1 ⟨g1, cap1, rfl, o1, b1⟩
      have e0 : (wr.alloc (.cells #[.int .i64 nm, .slice da ds.length dc] 37)).heap.size = wr.heap.size + 1 := by simp
      rw [e0] at o1 b1
      have HO := Lib.hid o1
      have HB1 := Lib.hid b1
      have hsz1 : wr.heap.size + 1 ≤ w1.heap.size := by have := b1.size; simpa using this
      have hn1 : Hid (∀ j u, ([.int .u8 90] : List Value)[j]? = some u → (w1.alloc (.cells #[.int .u8 90] 5)).cell? ((⟨w1.heap.size, 0, none⟩ : Addr).add j) = some u) := by
        intro j u hj'
        have hj0 : j < 1 := by have := (List.getElem?_eq_some_iff.1 hj').1; simpa using this
        rw [addr_add, Nat.zero_add, cell_of (heap_alloc_at w1 _)]
        simpa using hj'
      have after : Hid (∀ (v2 : Value) (w2 : World), w2.ownsRow (wr.heap.size + 1) 5 1 v2 (ds.length + 1) (byteCells ds ++ [.int .u8 90]) → (w1.alloc (.cells #[.int .u8 90] 5)).grownBy w2 (some g1) →
          ∃ g2 cap2, v2 = .slice (some ⟨g2, 0, none⟩) (ds.length + 1) cap2 ∧ Hid (w2.ownsRow (wr.heap.size + 1) 5 1 (.slice (some ⟨g2, 0, none⟩) (ds.length + 1) cap2) (ds.length + 1) (byteCells ds ++ [.int .u8 90])) ∧
            w2.cell? ⟨wr.heap.size, 0, none⟩ = some (.int .i64 nm) ∧ w2.cell? ⟨wr.heap.size, 1, none⟩ = some (.slice da ds.length dc) ∧ Hid (Below (wr.heap.size + 1) (wr.alloc (.cells #[.int .i64 nm, .slice da ds.length dc] 37)) w2) ∧ ds.length ≤ cap2) := by
        intro v2 w2 o2 g2w
        have hb12 : Below (wr.heap.size + 1) (wr.alloc (.cells #[.int .i64 nm, .slice da ds.length dc] 37)) w2 := (HB1.out.alloc hsz1 _).grown g2w (by simp; omega) (fun q hq => by cases hq; exact (HO.out.lt g1 rfl).1)
        have hcc : ∀ j u, (#[.int .i64 nm, .slice da ds.length dc] : Array Value)[j]? = some u → w2.cell? ⟨wr.heap.size, j, none⟩ = some u := fun j u hu => cell_keep hb12 (by rw [cell_of (heap_alloc_at wr _)]; exact hu) (by show wr.heap.size < _; omega)
        rcases o2.2 with ⟨e', h0⟩ | ⟨q, qc, cur, rfl, r1, r2, r3, r4⟩
        · omega
        · exact ⟨q, qc, rfl, o2, hcc 0 _ rfl, hcc 1 _ rfl, hb12, by omega⟩
      clear o1 b1 e0
      go_wp2_with (at_builtin; refine wpList_append_own _ rfl _ _ 35 rfl (wr.heap.size + 1) 5 i0 _ 1 1 Try.underlying35 hi hz0 hz1 hz2 rfl (by decide) _ ds.length (byteCells ds) rfl (HO.out.alloc _) ⟨w1.heap.size, 0, none⟩ 1 1 [.int .u8 90] rfl rfl hn1.out (by simp [Value.oneCell']) (by simp only [maxLen]; omega) (by omega) (by simp; omega) ?_; intro v2 w2 ho hgr hnil; obtain ⟨g2, cap2, f0, f1, f2, f3, f4, f5⟩ := after.out v2 w2 ho hgr; rw [f0]; clear ho hgr hnil f0)
      obtain ⟨Y, hY⟩ : ∃ Y : Array Value, Y = #[.int .i64 nm, .slice (some ⟨g2, 0, none⟩) ds.length cap2] := ⟨_, rfl⟩
      have hsz2 : wr.heap.size + 1 ≤ w2.heap.size := by have := f4.out.size; simpa using this
      have HV : Hid ((w2.alloc (.cells #[.int .i64 nm, .slice (some ⟨g2, 0, none⟩) ds.length cap2] 37)).drew.ownsRow w.heap.size 37 2 u3 k (bankCells l g c k)) := by
        refine ownsRow_heap (w := wr) Hrel.out.row (fun b hb => ?_)
        have hbl := ownBlock_lt Hrel.out.row hb
        show (w2.alloc _).heap[b]? = _
        rw [Below.heap_alloc _ _ _ (by omega), f4.out.block b (by omega)]
        exact Below.heap_alloc _ _ _ hbl
      have HN : Hid (∀ j u, ([.int .i64 nm, .slice (some ⟨g2, 0, none⟩) ds.length cap2] : List Value)[j]? = some u → (w2.alloc (.cells #[.int .i64 nm, .slice (some ⟨g2, 0, none⟩) ds.length cap2] 37)).drew.cell? ((⟨w2.heap.size, 0, none⟩ : Addr).add j) = some u) := by
        intro j u hj'
        rw [addr_add, Nat.zero_add]
        show (w2.alloc _).cell? _ = _
        rw [cell_of (heap_alloc_at w2 _)]
        simpa using hj'
      have fin : Hid (∀ (q qc : Nat) (w3 : World), (w2.alloc (.cells #[.int .i64 nm, .slice (some ⟨g2, 0, none⟩) ds.length cap2] 37)).drew.grownBy w3 u3.ownBlock → w3.ownsRow w.heap.size 37 2 (.slice (some ⟨q, 0, none⟩) (k + 1) qc) (k + 1) (bankCells l g c k ++ [.int .i64 nm, .slice (some ⟨g2, 0, none⟩) ds.length cap2]) →
          ∃ g' c', OwnRel w w3 l (k + 1) (.slice (some ⟨q, 0, none⟩) (k + 1) qc) g' c') := by
        intro q qc w3 hg ho
        have e1 : nm = (l.getD k (0, [])).1 := by rw [← Hp.out]
        have e2 : ds = (l.getD k (0, [])).2 := by rw [← Hp.out]
        have f1' := f1.out
        rw [e2] at f1' hg ho
        rw [e1] at ho
        exact ⟨_, _, Hrel.out.step (X := #[.int .i64 nm, .slice da ds.length dc]) f4.out f1' hg ho⟩
      clear hY Y
      go_wp2_with (fail)
      go_region_law (refine step_append_lies _ rfl (.tmp 18) (.tmp 27) 22 rfl w.heap.size 37 i1 _ 2 32 Try.underlying22 hj hy0 hy1 hy2 rfl (by decide) u3 k (bankCells l g c k) (by simp [Act.eval]) HV.out ⟨w2.heap.size, 0, none⟩ 1 1 [.int .i64 nm, .slice (some ⟨g2, 0, none⟩) ds.length cap2] (by simp [Act.eval]) rfl HN.out (by simp [Value.oneCell']) (by decide) (by simp only [maxLen]; omega) (by omega) (by simp; omega) _ rfl ?_; intro q qc w3 ho hg hat hlt'; have f6 := Lib.hid (fin.out q qc w3 hg ho); clear ho hg hat hlt')
      all_goals
        go_wp2_with (fail)
        go_roundw
        case rel => exact ⟨k + 1, hlt, by go_num, f6.out⟩
        case measure => simp [intOf]; omega
    · have hke : k = l.length := by omega
      have fin : Hid (∃ g c, OwnRel w wr l l.length u3 g c) := ⟨g, c, hke ▸ hrel⟩
      clear hke hrel
      go_wp2_with (fail)
      go_ret
      obtain ⟨g, c, hr⟩ := fin.out
      exact ⟨_, g, c, rfl, hr⟩

def MayPost (w : World) (l : List (Int × List Int)) (e : Ending) (w' : World) : Prop :=
  Below w.heap.size w w' ∧ ((banksOk l ∧ e = .returned (.bool true)) ∨ (¬ banksOk l ∧ e = .returned (.bool false)))
def MayRel (w wr : World) (l : List (Int × List Int)) (k : Nat) (la : Int) : Prop := Below w.heap.size w wr ∧ (∀ i, i < k → okAt l i) ∧ la = lastAt l k
theorem MayRel.bad {w wr : World} {l : List (Int × List Int)} {k : Nat} {la : Int} (h : MayRel w wr l k la) {w' : World} (hw : Below wr.heap.size wr w') (hk : k < l.length) (hbad : ¬ okAt l k) : MayPost w l (.returned (.bool false)) w' :=
  ⟨h.1.trans (hw.mono h.1.size), .inr ⟨fun hb => hbad (hb k hk), rfl⟩⟩
theorem MayRel.step {w wr : World} {l : List (Int × List Int)} {k : Nat} {la : Int} (h : MayRel w wr l k la) (X : Array Value) (hk : okAt l k) : MayRel w (wr.alloc (.cells X 37)) l (k + 1) (l.getD k (0, [])).1 :=
  ⟨h.1.alloc h.1.size _, fun i hi => by
    by_cases e : i = k
    · subst e; exact hk
    · exact h.2.1 i (by omega), (lastAt_succ l k).symm⟩

set_option maxRecDepth 100000 in
set_option maxHeartbeats 2000000 in
theorem mayBanks_any (w : World) (v : Value) (l : List (Int × List Int)) (dv : Nat → Value) (hb : BanksIn w v l dv) (hlen : l.length ≤ 2000000) :
    Calls Try.prog 38 #[v] w (MayPost w l) := by
  obtain ⟨A, cap, rfl, hrow⟩ := hb.row
  have HB := Lib.hid hb
  have HR := Lib.hid hrow
  clear hb hrow
  go_enter Try.func38, Try.ntmps38
  go_wp2_with (fail)
  go_loopw [3, 8] (fun last i wr => ∃ k : Nat, ∃ la : Int, k ≤ l.length ∧ i = .int .i64 k ∧ last = .int .i64 la ∧ MayRel w wr l k la) (fun _ i _ => l.length - (intOf i).toNat)
  case atStart => exact ⟨0, -1, Nat.zero_le _, rfl, rfl, Below.refl _ _, fun i hi => by omega, rfl⟩
  case round =>
    obtain ⟨k, la, hk, rfl, rfl, hrel⟩ := hrel
    by_cases hlt : k < l.length
    · obtain ⟨ab, ao, rfl, hcc⟩ := HR.out (by omega)
      have hbw : Below w.heap.size w wr := hrel.1
      obtain ⟨da, dc, hd, _, hdata⟩ := HB.out.bytes k hlt
      have c0 : wr.cell? ⟨ab, ao + k * 2, none⟩ = some (.int .i64 (l.getD k (0, [])).1) := cell_keep hbw (hcc k hlt).1 (World.block_lt_of_cell? w _ (hcc k hlt).1)
      have c1 : wr.cell? ⟨ab, ao + k * 2 + 1, none⟩ = some (.slice da (l.getD k (0, [])).2.length dc) := hd ▸ cell_keep hbw (hcc k hlt).2 (World.block_lt_of_cell? w _ (hcc k hlt).2)
      have hle : lastAt l k = la := hrel.2.2.symm
      obtain ⟨p, hp⟩ : ∃ p, p = l.getD k (0, []) := ⟨_, rfl⟩
      rw [← hp] at c0 c1
      have Hok : Hid (okAt l k ↔ (la < p.1 ∧ p.1 ≤ 15 ∧ p.2.length ≤ 16384)) := by unfold okAt; rw [hle, ← hp]; exact Iff.rfl
      have Hp := Lib.hid hp
      have Hrel := Lib.hid hrel
      obtain ⟨nm, ds⟩ := p
      dsimp only at c0 c1 Hok
      clear hle hp hd hrel hbw hcc hdata
      have fin : Hid (¬ (la < nm ∧ nm ≤ 15 ∧ ds.length ≤ 16384) → ∀ w', Below wr.heap.size wr w' → MayPost w l (.returned (.bool false)) w') := fun hn w' hw => Hrel.out.bad hw hlt (fun h => hn (Hok.out.1 h))
      by_cases n1 : nm ≤ la
      · have d1 : decide (nm ≤ la) = true := by simpa using n1
        have f2 := Lib.hid (fin.out (by omega))
        go_wp2_with (fail)
        go_ret
        exact f2.out _ ((Below.refl _ _).alloc (Nat.le_refl _) _)
      have d1 : decide (nm ≤ la) = false := by simpa using n1
      by_cases n2 : 15 < nm
      · have d2 : decide (15 < nm) = true := by simpa using n2
        have f2 := Lib.hid (fin.out (by omega))
        go_wp2_with (fail)
        go_ret
        exact f2.out _ ((Below.refl _ _).alloc (Nat.le_refl _) _)
      have d2 : decide (15 < nm) = false := by simpa using n2
      by_cases n3 : 16384 < ds.length
      · have d3 : decide ((16384 : Int) < (ds.length : Int)) = true := by simp; omega
        have f2 := Lib.hid (fin.out (by omega))
        go_wp2_with (fail)
        go_ret
        exact f2.out _ ((Below.refl _ _).alloc (Nat.le_refl _) _)
      have d3 : decide ((16384 : Int) < (ds.length : Int)) = false := by simp; omega
      have hnew : Hid (MayRel w (wr.alloc (.cells #[.int .i64 nm, .slice da ds.length dc] 37)) l (k + 1) nm) := by
        have := Hrel.out.step #[.int .i64 nm, .slice da ds.length dc] (Hok.out.2 ⟨by omega, by omega, by omega⟩)
        rw [← Hp.out] at this; exact this
      go_wp2_with (fail)
      go_roundw
      case rel => exact ⟨k + 1, _, hlt, by go_num, rfl, hnew.out⟩
      case measure => simp [intOf]; omega
    · have hke : k = l.length := by omega
      have fin : Hid (MayPost w l (.returned (.bool true)) wr) := ⟨hrel.1, .inl ⟨fun i hi => hrel.2.1 i (by omega), rfl⟩⟩
      clear hke
      go_wp2_with (fail)
      go_ret
      exact fin.out

theorem may_any (w : World) (v : Value) (l : List (Int × List Int)) (dv : Nat → Value) (hb : BanksIn w v l dv) (hlen : l.length ≤ 2000000) :
    Calls Try.prog 10 #[v] w (MayPost w l) := by
  have hm := Lib.hid (mayBanks_any w v l dv hb hlen)
  clear hb
  go_enter Try.func10, Try.ntmps10
  go_wp2_with (fail)
  refine hm.out.mono ?_
  rintro e w1 ⟨b1, ⟨hb, rfl⟩ | ⟨hb, rfl⟩⟩
  · have f : Hid (MayPost w l (.returned (.bool true)) w1) := ⟨b1, .inl ⟨hb, rfl⟩⟩
    go_wp2_with (fail)
    go_ret
    exact f.out
  · have f : Hid (MayPost w l (.returned (.bool false)) w1) := ⟨b1, .inr ⟨hb, rfl⟩⟩
    go_wp2_with (fail)
    go_ret
    exact f.out

theorem plain_any (a : Int) (w : World) : Calls Try.prog 13 #[.int .u16 a] w fun e w' => e = .returned (.bool (decide (16384 ≤ a ∧ a < 52224))) ∧ w = w' := by
  by_cases h1 : 16384 ≤ a
  · have d1 : decide (16384 ≤ a) = true := by simpa using h1
    by_cases h2 : a < 52224
    · have d2 : decide (a < 52224) = true := by simpa using h2
      go_enter Try.func13, Try.ntmps13
      go_wp2
      go_ret
      exact ⟨by simp [h1, h2], rfl⟩
    · have d2 : decide (a < 52224) = false := by simpa using h2
      go_enter Try.func13, Try.ntmps13
      go_wp2
      go_ret
      exact ⟨by simp [h2], rfl⟩
  · have d1 : decide (16384 ≤ a) = false := by simpa using h1
    go_enter Try.func13, Try.ntmps13
    go_wp2
    go_ret
    exact ⟨by simp [h1], rfl⟩
end Go.Proofs.Ytabeljpnmmfpgaa
