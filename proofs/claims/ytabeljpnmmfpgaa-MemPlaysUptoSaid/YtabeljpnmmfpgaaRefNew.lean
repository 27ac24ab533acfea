/-
  ref.New: a memory that the record newMem tells.
  ref.New, 2: the walk.
-/
import Derived.Test.YtabeljpnmmfpgaaRefImage
import Derived.Test.YtabeljpnmmfpgaaMemOwn
import Derived.Test.YtabeljpnmmfpgaaMemRest
import Derived.BigRegion
namespace Go.Proofs.Ytabeljpnmmfpgaa
open Go.RowKit Go.MapKept
set_option linter.unusedVariables false
set_option linter.unusedSimpArgs false

/-- The banks' numbers. -/
def nums (l : List (Int × List Int)) : List Int := l.map Prod.fst
theorem nums_at (l : List (Int × List Int)) (i : Nat) (hi : i < l.length) : (nums l).getD i 0 = (l.getD i (0, [])).1 := by
  simp [nums, List.getD_eq_getElem?_getD, List.getElem?_map, List.getElem?_eq_getElem hi]
theorem nums_len (l : List (Int × List Int)) : (nums l).length = l.length := List.length_map _

/-- The object of New behind the two rows that it makes. -/
def NewSt (w wx Wz : World) (l : List (Int × List Int)) (k br bs : Nat) (bx : Nat → Nat) (bv : Value) : Prop :=
  Below w.heap.size w Wz ∧ Buf Wz br 16384 (fun _ => 0) ∧ Buf Wz bs 3072 (fun _ => 0) ∧ br ≠ bs ∧ w.heap.size ≤ br ∧ w.heap.size ≤ bs ∧
    Cp Wz wx (newMem l l.length) (nums l) k bx bv (.slice (some ⟨br, 0, none⟩) 16384 16384) (.slice (some ⟨bs, 0, none⟩) 3072 3072) (.slice none 0 0)

theorem madeBuf (w : World) (n : Nat) : Buf (w.alloc (.cells (madeCells #[Value.int .u8 0] n) 5)) w.heap.size n (fun _ => 0) := by
  obtain ⟨cs, h1, h2, h3⟩ := World.rowIs_made w (.int .u8 0) n 5
  exact ⟨cs, h1, h2, h3⟩

theorem NewSt.start1 (w w1 : World) (l : List (Int × List Int)) (hb : Below w.heap.size w w1) {C1 C2 : Array Value} (h1 : C1 = madeCells #[Value.int .u8 0] 16384) (h2 : C2 = madeCells #[Value.int .u8 0] 3072) :
    NewSt w ((((w1.alloc (.cells C1 5)).alloc (.cells C2 5)).alloc (.cells #[.slice none 0 0, .slice (some ⟨w1.heap.size, 0, none⟩) 16384 16384, .slice (some ⟨w1.heap.size + 1, 0, none⟩) 3072 3072, .int .u8 0, .int .u8 0, .int .u16 0, .int .u8 0, .int .u16 0, .int .i64 0, .slice none 0 0] 80)).drew)
      ((w1.alloc (.cells C1 5)).alloc (.cells C2 5)) l 0 w1.heap.size (w1.heap.size + 1) (fun _ => 0) (.slice none 0 0) := by
  have hsz := hb.size
  have b1 := madeBuf w1 16384
  have b2 := madeBuf (w1.alloc (.cells C1 5)) 3072
  rw [← h1] at b1; rw [← h2] at b2
  have e1 : (w1.alloc (.cells C1 5)).heap.size = w1.heap.size + 1 := by simp
  rw [e1] at b2
  refine ⟨(hb.alloc hsz _).alloc (by rw [e1]; omega) _, b1.keep (Below.heap_alloc _ _ _ (by rw [e1]; omega)), b2, by omega, by omega, by omega, ?_⟩
  exact (Cp.start _ (newMem l l.length) (nums l) (fun _ => 0) (.slice (some ⟨w1.heap.size, 0, none⟩) 16384 16384) (.slice (some ⟨w1.heap.size + 1, 0, none⟩) 3072 3072) (.slice none 0 0)).next (Quiet.below ⟨1, rfl⟩)
theorem NewSt.start2 (w w1 : World) (l : List (Int × List Int)) (hb : Below w.heap.size w w1) {C1 C2 : Array Value} (h1 : C1 = madeCells #[Value.int .u8 0] 16384) (h2 : C2 = madeCells #[Value.int .u8 0] 3072) :
    NewSt w ((((w1.alloc (.cells C2 5)).alloc (.cells C1 5)).alloc (.cells #[.slice none 0 0, .slice (some ⟨w1.heap.size + 1, 0, none⟩) 16384 16384, .slice (some ⟨w1.heap.size, 0, none⟩) 3072 3072, .int .u8 0, .int .u8 0, .int .u16 0, .int .u8 0, .int .u16 0, .int .i64 0, .slice none 0 0] 80)).drew)
      ((w1.alloc (.cells C2 5)).alloc (.cells C1 5)) l 0 (w1.heap.size + 1) w1.heap.size (fun _ => 0) (.slice none 0 0) := by
  have hsz := hb.size
  have b1 := madeBuf w1 3072
  have b2 := madeBuf (w1.alloc (.cells C2 5)) 16384
  rw [← h2] at b1; rw [← h1] at b2
  have e1 : (w1.alloc (.cells C2 5)).heap.size = w1.heap.size + 1 := by simp
  rw [e1] at b2
  refine ⟨(hb.alloc hsz _).alloc (by rw [e1]; omega) _, b2, b1.keep (Below.heap_alloc _ _ _ (by rw [e1]; omega)), by omega, by omega, by omega, ?_⟩
  exact (Cp.start _ (newMem l l.length) (nums l) (fun _ => 0) (.slice (some ⟨w1.heap.size + 1, 0, none⟩) 16384 16384) (.slice (some ⟨w1.heap.size, 0, none⟩) 3072 3072) (.slice none 0 0)).next (Quiet.below ⟨1, rfl⟩)

theorem newMem_ok {l : List (Int × List Int)} (hB : ∀ i, i < l.length → IsBytes (l.getD i (0, [])).2) : (newMem l l.length).Ok := by
  have z1 : (0 : Int) ≤ 0 ∧ (0 : Int) < 256 := by decide
  have z2 : (0 : Int) ≤ 0 ∧ (0 : Int) < 65536 := by decide
  refine ⟨?_, fun _ => z1, fun _ => z1, z1, z1, z1, z2, z2⟩
  intro n g hg
  have : ∀ k, k ≤ l.length → bankOf l k n = some g → ∀ i, 0 ≤ g i ∧ g i < 256 := by
    intro k
    induction k with
    | zero => intro _ h; cases h
    | succ k ih =>
      intro hk h
      unfold bankOf at h
      split at h
      · cases h; exact (hB k (by omega)).at_
      · exact ih (by omega) h
  exact this _ (Nat.le_refl _) hg

theorem nums_asc {l : List (Int × List Int)} (h : banksOk l) : (nums l).Pairwise (fun x y => x < y) := by
  have key : ∀ j, j < l.length → ∀ i, i < j → (l.getD i (0, [])).1 < (l.getD j (0, [])).1 := by
    intro j
    induction j with
    | zero => intro _ i hi; omega
    | succ j ih =>
      intro hj i hi
      have h1 := (h (j + 1) hj).1
      rw [lastAt_succ] at h1
      by_cases e : i = j
      · rw [e]; exact h1
      · have := ih (by omega) i (by omega); omega
  rw [List.pairwise_iff_getElem]
  intro i j hi hj hij
  rw [nums_len] at hi hj
  have := key j hj i hij
  rw [← nums_at l i hi, ← nums_at l j hj] at this
  simpa [List.getD_eq_getElem?_getD, nums_len, hi, hj] using this

theorem nums_mem {l : List (Int × List Int)} (h : banksOk l) (n : Int) : ((newMem l l.length).bank n).isSome = true ↔ n ∈ nums l := by
  constructor
  · intro hs
    obtain ⟨i, hi, rfl⟩ := bankOf_mem l.length n hs
    rw [← nums_at l i hi, List.getD_eq_getElem?_getD, List.getElem?_eq_getElem (by rw [nums_len]; exact hi)]
    exact List.getElem_mem _
  · intro hm
    obtain ⟨i, hi, rfl⟩ := List.mem_iff_getElem.1 hm
    rw [nums_len] at hi
    have e : (nums l)[i]'(by rw [nums_len]; exact hi) = (l.getD i (0, [])).1 := by
      rw [← nums_at l i hi, List.getD_eq_getElem?_getD, List.getElem?_eq_getElem (by rw [nums_len]; exact hi)]; rfl
    rw [e]
    show (bankOf l l.length _).isSome = true
    rw [bankOf_at h l.length i hi (Nat.le_refl _)]; rfl

theorem NewSt.close {w W Wz : World} {l : List (Int × List Int)} {br bs : Nat} {bx : Nat → Nat} {bv : Value} (h : NewSt w W Wz l l.length br bs bx bv) (hok : banksOk l) (hB : ∀ i, i < l.length → IsBytes (l.getD i (0, [])).2) :
    Below w.heap.size w W ∧ ∃ S', RefRep W Wz.heap.size (newMem l l.length) S' ∧ ∀ i, S' i → w.heap.size ≤ i := by
  obtain ⟨hb, h1, h2, hne, hr, hs, hc⟩ := h
  have hsz := hb.size
  have lt : ∀ {V : World} {q n : Nat} {f : Nat → Int}, Buf V q n f → q < V.heap.size := fun hq => by obtain ⟨cs, e, _⟩ := hq; exact heap_lt e
  have l1 := lt h1
  have l2 := lt h2
  have h1' : Buf W br 16384 (fun _ => 0) := h1.keep (hc.below.block _ l1)
  have h2' : Buf W bs 3072 (fun _ => 0) := h2.keep (hc.below.block _ l2)
  have hW := hc.below.size
  have hn := nums_len l
  have base0 : ∀ {B n size : Nat} {t : TypeId} {v : Value} {xs : List Value}, W.ownsRow B t size v n xs → W.ownsRow 0 t size v n xs := fun ho => by
    refine ⟨ho.1, ?_⟩
    rcases ho.2 with e | ⟨g, cap, cur, e1, e2, e3⟩
    · exact .inl e
    · exact .inr ⟨g, cap, cur, e1, Nat.zero_le _, e3⟩
  refine ⟨hb.trans (hc.below.mono hsz), fun i => w.heap.size ≤ i ∧ i < W.heap.size, ⟨nums l, bx, bv, br, bs, .slice none 0 0, ?_⟩, fun i hi => hi.1⟩
  exact { ok := newMem_ok hB, obj := hc.obj, ram := h1', scr := h2', asc := nums_asc hok, has := nums_mem hok,
          small := fun n hm => by
            obtain ⟨i, hi, rfl⟩ := List.mem_iff_getElem.1 hm
            rw [hn] at hi
            have e : (nums l)[i]'(by rw [hn]; exact hi) = (l.getD i (0, [])).1 := by
              rw [← nums_at l i hi, List.getD_eq_getElem?_getD, List.getElem?_eq_getElem (by rw [hn]; exact hi)]; rfl
            rw [e]
            have h0 := lastAt_ge (l := l) (k := i) (fun j hj => hok j (by omega))
            obtain ⟨k1, k2, _⟩ := hok i hi
            omega,
          row := by rw [hn]; exact base0 hc.row,
          bank := fun i hi => by rw [hn] at hi; obtain ⟨g, e1, e2, _⟩ := hc.dat i hi; exact ⟨g, e1, e2⟩,
          inj := fun i j hi hj e => hc.inj i j (by rw [hn] at hi; exact hi) (by rw [hn] at hj; exact hj) e, nrs := hne,
          nrx := fun i hi => by rw [hn] at hi; obtain ⟨g, _, _, e3⟩ := hc.dat i hi; omega, tones := World.ownsRow_nil _ _ _ _,
          sb := ⟨by omega, hc.lt⟩, sr := ⟨hr, by omega⟩, ss := ⟨hs, by omega⟩, sx := fun i hi => by rw [hn] at hi; obtain ⟨g, _, e2, e3⟩ := hc.dat i hi; exact ⟨by omega, lt e2⟩,
          sv := fun k hk => ⟨by have := (hc.row.lt k hk).1; omega, ownBlock_lt hc.row hk⟩, st := fun k hk => by simp [Value.ownBlock] at hk, lt := fun i hi => hi.2 }
end Go.Proofs.Ytabeljpnmmfpgaa

namespace Go.Proofs.Ytabeljpnmmfpgaa
open Go.RowKit Go.MapKept
set_option linter.unusedVariables false
set_option linter.unusedSimpArgs false

/-- What New answers. -/
def RefNewPost (w : World) (l : List (Int × List Int)) (e : Ending) (w' : World) : Prop :=
  Below w.heap.size w w' ∧ ((banksOk l ∧ ∃ q S, e = .returned (.tuple #[.pointer (some ⟨q, 0, none⟩), .int .i64 0]) ∧ RefRep w' q (newMem l l.length) S ∧ ∀ i, S i → w.heap.size ≤ i) ∨ (¬ banksOk l ∧ e = .returned (.tuple #[.pointer none, .int .i64 2])))

set_option maxRecDepth 100000 in
set_option maxHeartbeats 4000000 in
theorem refNew_any (w : World) (v : Value) (l : List (Int × List Int)) (dv : Nat → Value) (hb : BanksIn w v l dv) (hlen : l.length ≤ 2000000) :
    Calls Try.prog 31 #[v] w (RefNewPost w l) := by
  obtain ⟨i1, hj, hy0, hy1, hy2⟩ := info_parts infoBank
  obtain ⟨A, cap, rfl, hrow⟩ := hb.row
  have mb := Lib.hid (mayBanks_any w _ l dv hb hlen)
  have H1 := Lib.hid hb
  have HR := Lib.hid hrow
  obtain ⟨C1, hC1⟩ : ∃ C, C = madeCells #[Value.int .u8 0] 16384 := ⟨_, rfl⟩
  obtain ⟨C2, hC2⟩ : ∃ C, C = madeCells #[Value.int .u8 0] 3072 := ⟨_, rfl⟩
  have mk1 : ∀ W : World, (Instr.makeSlice 35 (.int .i64 16384) (.int .i64 16384)).run Try.prog W = .ok (.slice (some ⟨W.heap.size, 0, none⟩) 16384 16384) (W.alloc (.cells C1 5)) := by
    rw [hC1]; exact run_make_row' (P := Try.prog) 35 5 (.int .u8 0) 1 Try.underlying35 infoU8 rfl .i64 .i64 16384 (by omega) (by omega)
  have mk2 : ∀ W : World, (Instr.makeSlice 35 (.int .i64 3072) (.int .i64 3072)).run Try.prog W = .ok (.slice (some ⟨W.heap.size, 0, none⟩) 3072 3072) (W.alloc (.cells C2 5)) := by
    rw [hC2]; exact run_make_row' (P := Try.prog) 35 5 (.int .u8 0) 1 Try.underlying35 infoU8 rfl .i64 .i64 3072 (by omega) (by omega)
  have HC := Lib.hid (And.intro hC1 hC2)
  clear hC1 hC2 hb hrow
  go_enter Try.func31, Try.ntmps31
  go_wp2_with (go_at_call 38; refine mb.out.mono ?_; rintro e w1 ⟨hb1, ⟨h1, rfl⟩ | ⟨h1, rfl⟩⟩)
  · have S1 := Lib.hid (NewSt.start1 w w1 l hb1 HC.out.1 HC.out.2)
    have S2 := Lib.hid (NewSt.start2 w w1 l hb1 HC.out.1 HC.out.2)
    have HOK := Lib.hid h1
    clear hb1 h1 mb
    go_cut [4] (fun p wx => ∃ Wz br bs, p = .pointer (some ⟨Wz.heap.size, 0, none⟩) ∧ Hid (NewSt w wx Wz l 0 br bs (fun _ => 0) (.slice none 0 0)))
    case first =>
      go_region
      all_goals
        go_wp2_with (fail)
        go_meet
        first | exact ⟨_, _, _, by simp, S1⟩ | exact ⟨_, _, _, by simp, S2⟩
    case rest =>
      obtain ⟨Wz, br, bs, rfl, hst⟩ := hcut
      obtain ⟨W, hW⟩ : ∃ W, W = wc := ⟨_, rfl⟩
      rw [← hW] at hst ⊢
      clear hW mk1 mk2 S1 S2
      go_wp2_with (fail)
      go_loopw [16] (fun i wr => ∃ k : Nat, k ≤ l.length ∧ i = .int .i64 k ∧ ∃ bx bv, Hid (NewSt w wr Wz l k br bs bx bv)) (fun i _ => l.length - (intOf i).toNat)
      case atStart => exact ⟨0, Nat.zero_le _, rfl, _, _, hst⟩
      case round =>
        obtain ⟨k, hk, rfl, bx, bv, NS⟩ := hrel
        obtain ⟨ba, bn, bc, rfl⟩ := slice_of NS.out.2.2.2.2.2.2.row
        by_cases hlt : k < l.length
        · obtain ⟨ab, ao, rfl, hcc⟩ := HR.out (by omega)
          have hcp := NS.out.2.2.2.2.2.2
          have hbz : Below Wz.heap.size Wz wr := hcp.below
          have hbw : Below w.heap.size w wr := NS.out.1.trans (hbz.mono NS.out.1.size)
          obtain ⟨da, dc, hd, _, _⟩ := H1.out.bytes k hlt
          have hbyt := H1.out.bytes k hlt
          have c0 : wr.cell? ⟨ab, ao + k * 2, none⟩ = some (.int .i64 (l.getD k (0, [])).1) := cell_keep hbw (hcc k hlt).1 (World.block_lt_of_cell? w _ (hcc k hlt).1)
          have c1 : wr.cell? ⟨ab, ao + k * 2 + 1, none⟩ = some (.slice da (l.getD k (0, [])).2.length dc) := hd ▸ cell_keep hbw (hcc k hlt).2 (World.block_lt_of_cell? w _ (hcc k hlt).2)
          have hdl := (HOK.out k hlt).2.2
          have hgd : (newMem l l.length).bank ((nums l).getD k 0) = some (fun j => (l.getD k (0, [])).2.getD j 0) := by
            rw [nums_at l k hlt]; exact bankOf_at HOK.out l.length k hlt (Nat.le_refl _)
          have hnm := (nums_at l k hlt).symm
          rw [hd] at hbyt
          obtain ⟨p, hp⟩ : ∃ p, p = l.getD k (0, []) := ⟨_, rfl⟩
          rw [← hp] at c0 c1 hdl hbyt hgd hnm
          obtain ⟨nm, ds⟩ := p
          dsimp only at c0 c1 hdl hbyt hgd hnm
          have hsz := hbw.size
          obtain ⟨xs, hxs⟩ : ∃ xs, xs = rowCells (nums l) bx k := ⟨_, rfl⟩
          have b0 : Below w.heap.size w (wr.alloc (.cells #[.int .i64 nm, .slice da ds.length dc] 37)).drew := (hbw.alloc hsz _).drew
          have e0 : (wr.alloc (.cells #[.int .i64 nm, .slice da ds.length dc] 37)).drew.heap.size = wr.heap.size + 1 := by show (wr.alloc _).heap.size = _; simp
          have fl : Calls Try.prog 44 #[.slice da ds.length dc, .int .i64 16384] (wr.alloc (.cells #[.int .i64 nm, .slice da ds.length dc] 37)).drew fun e w1 => e = .returned (.slice (some ⟨wr.heap.size + 1, 0, none⟩) 16384 16384) ∧
              w1.cell? ⟨Wz.heap.size, 0, none⟩ = some (.slice ba bn bc) ∧ (w1.alloc (.cells #[.int .i64 nm, .slice (some ⟨wr.heap.size + 1, 0, none⟩) 16384 16384] 37)).cell? ⟨Wz.heap.size, 0, none⟩ = some (.slice ba bn bc) ∧
              (w1.cell? ⟨wr.heap.size, 0, none⟩ = some (.int .i64 nm) ∧ w1.cell? ⟨wr.heap.size, 1, none⟩ = some (.slice da ds.length dc)) ∧
              Hid ((w1.alloc (.cells #[.int .i64 nm, .slice (some ⟨wr.heap.size + 1, 0, none⟩) 16384 16384] 37)).cell? ⟨wr.heap.size, 0, none⟩ = some (.int .i64 nm) ∧ (w1.alloc (.cells #[.int .i64 nm, .slice (some ⟨wr.heap.size + 1, 0, none⟩) 16384 16384] 37)).cell? ⟨wr.heap.size, 1, none⟩ = some (.slice da ds.length dc)) ∧
              Hid ((w1.alloc (.cells #[.int .i64 nm, .slice (some ⟨wr.heap.size + 1, 0, none⟩) 16384 16384] 37)).ownsRow (Wz.heap.size + 1) 37 2 (.slice ba bn bc) k xs) ∧ Wz.heap.size + 1 ≤ w1.heap.size ∧
              Hid (∀ j u, ([.int .i64 nm, .slice (some ⟨wr.heap.size + 1, 0, none⟩) 16384 16384] : List Value)[j]? = some u → (w1.alloc (.cells #[.int .i64 nm, .slice (some ⟨wr.heap.size + 1, 0, none⟩) 16384 16384] 37)).cell? ((⟨w1.heap.size, 0, none⟩ : Addr).add j) = some u) ∧
              Hid (∀ v' w3, (w1.alloc (.cells #[.int .i64 nm, .slice (some ⟨wr.heap.size + 1, 0, none⟩) 16384 16384] 37)).grownBy w3 (Value.slice ba bn bc).ownBlock → w3.ownsRow (Wz.heap.size + 1) 37 2 v' (k + 1) (xs ++ [.int .i64 nm, .slice (some ⟨wr.heap.size + 1, 0, none⟩) 16384 16384]) →
                w3.cell? ⟨Wz.heap.size, 0, none⟩ = some (.slice ba bn bc) ∧ w3.frozen? ⟨Wz.heap.size, 0, none⟩ = false ∧ (w3.cell? ⟨wr.heap.size, 0, none⟩ = some (.int .i64 nm) ∧ w3.cell? ⟨wr.heap.size, 1, none⟩ = some (.slice da ds.length dc)) ∧
                ((w3.setCell ⟨Wz.heap.size, 0, none⟩ v').cell? ⟨wr.heap.size, 0, none⟩ = some (.int .i64 nm) ∧ (w3.setCell ⟨Wz.heap.size, 0, none⟩ v').cell? ⟨wr.heap.size, 1, none⟩ = some (.slice da ds.length dc)) ∧
                Cp Wz (w3.setCell ⟨Wz.heap.size, 0, none⟩ v') (newMem l l.length) (nums l) (k + 1) (fun i => if i = k then wr.heap.size + 1 else bx i) v' (.slice (some ⟨br, 0, none⟩) 16384 16384) (.slice (some ⟨bs, 0, none⟩) 3072 3072) (.slice none 0 0)) := by
            refine (fullB_any _ _ ds 16384 (hbyt.below b0) hdl (Nat.le_refl _)).mono ?_
            rintro e w1 ⟨rfl, hbf, hb⟩
            rw [e0] at hb hbf
            obtain ⟨⟨q1, q2⟩, q3, q4, q5, q6, q7, q8⟩ := hcp.round hb hgd hbf hnm _ rfl
            rw [← hxs] at q5 q8
            exact ⟨by rw [e0], q1, q2, q3, q4, q5, q6, q7, q8⟩
          have FL := Lib.hid fl
          have t0 : (wr.alloc (.cells #[.int .i64 nm, .slice da ds.length dc] 37)).drew.cell? ⟨wr.heap.size, 0, none⟩ = some (.int .i64 nm) ∧ (wr.alloc (.cells #[.int .i64 nm, .slice da ds.length dc] 37)).drew.cell? ⟨wr.heap.size, 1, none⟩ = some (.slice da ds.length dc) := by
            have hW : (wr.alloc (.cells #[.int .i64 nm, .slice da ds.length dc] 37)).drew.heap[wr.heap.size]? = some (.cells #[.int .i64 nm, .slice da ds.length dc] 37 (0, 0)) := heap_alloc_at wr _
            exact ⟨by rw [cell_of hW]; rfl, by rw [cell_of hW]; rfl⟩
          have T0 := Lib.hid t0
          have x0 : wr.cell? ⟨Wz.heap.size, 0, none⟩ = some (.slice ba bn bc) := (cells10 hcp.obj).1
          have x1 : (wr.alloc (.cells #[.int .i64 nm, .slice da ds.length dc] 37)).cell? ⟨Wz.heap.size, 0, none⟩ = some (.slice ba bn bc) := by
            have hl := hcp.lt
            rw [World.cell?_of_block (w := wr) (Below.heap_alloc _ _ _ hl)]; exact x0
          clear fl t0 hnm hgd hbyt b0 e0 hbw hxs hcc hd hdl hp hcp
          go_wp2_with (fail)
          go_region_law (first
            | (go_simp; go_at_call 44; refine FL.out.mono ?_; rintro e w1 ⟨rfl, y1, y2, ⟨T1, T1b⟩, T2, HV, hsz1, HNW, AP⟩; dsimp only)
            | (refine step_append_lies _ rfl (.tmp 24) (.tmp 31) 22 rfl (Wz.heap.size + 1) 37 i1 _ 2 32 Try.underlying22 hj hy0 hy1 hy2 rfl (by decide) (.slice ba bn bc) k xs (by simp [Act.eval]) HV.out ⟨w1.heap.size, 0, none⟩ 1 1 [.int .i64 nm, .slice (some ⟨wr.heap.size + 1, 0, none⟩) 16384 16384] (by simp [Act.eval]) rfl HNW.out (by simp [Value.oneCell']) (by decide) (by simp only [maxLen]; omega) (by omega) (by simp; omega) _ rfl ?_; intro q qc w3 ho hg hat hlt'; obtain ⟨y3, yf3, T3', T4', R'⟩ := AP.out _ w3 hg ho; have RR : Hid (NewSt w _ Wz l (k + 1) br bs _ _) := ⟨NS.out.1, NS.out.2.1, NS.out.2.2.1, NS.out.2.2.2.1, NS.out.2.2.2.2.1, NS.out.2.2.2.2.2.1, R'⟩; clear ho hg hat hlt' T3' T4' R'))
          all_goals
            go_wp2_with (fail)
            go_roundw
            case rel => exact ⟨k + 1, hlt, by go_num, _, _, RR⟩
            case measure => simp [intOf]; omega
        · obtain rfl : k = l.length := by omega
          have fin : Hid (RefNewPost w l (.returned (.tuple #[.pointer (some ⟨Wz.heap.size, 0, none⟩), .int .i64 0])) wr) := by
            obtain ⟨f1, S', f2, f3⟩ := NS.out.close HOK.out H1.out.isB
            exact ⟨f1, .inl ⟨HOK.out, _, S', rfl, f2, f3⟩⟩
          clear hlt hk NS
          go_wp2_with (fail)
          go_ret2
          exact fin.out
  · have f : Hid (RefNewPost w l (.returned (.tuple #[.pointer none, .int .i64 2])) w1) := ⟨hb1, .inr ⟨h1, rfl⟩⟩
    clear mb hb1 h1
    go_wp2_with (fail)
    go_ret2
    exact f.out
end Go.Proofs.Ytabeljpnmmfpgaa
