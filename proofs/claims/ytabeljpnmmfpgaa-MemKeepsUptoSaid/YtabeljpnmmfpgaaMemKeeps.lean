/-
  MemKeeps, walked.
-/
import Derived.Test.YtabeljpnmmfpgaaMemKeepsLaw
import Derived.Test.YtabeljpnmmfpgaaMemOwn2
import Derived.Deep.DeepCutAuto
namespace Go.Proofs.Ytabeljpnmmfpgaa
open Go.RowKit Go.MapKept
set_option linter.unusedVariables false
set_option linter.unusedSimpArgs false

/-- A memory that was made since w. -/
def MemBelow (w wr : World) (b : Nat) (M : Mm) : Prop := Below w.heap.size w wr ∧ ∃ S, MemRep wr b M S ∧ ∀ i, S i → w.heap.size ≤ i
theorem MemBelow.done {w wr w' : World} {b : Nat} {M M' : Mm} (h : Below w.heap.size w wr) {S : Nat → Prop} (hS : ∀ i, S i → w.heap.size ≤ i) (d : MemDone wr w' b M' S) : MemBelow w w' b M' := d.below h h.size hS
theorem store_bel {w wr : World} {b : Nat} {M : Mm} {a x : Int} (h : MemBelow w wr b M) (h0 : 0 ≤ a) (h1 : a < 65536) (hx0 : 0 ≤ x) (hx1 : x < 256) (hl : M.tones.length < 1000000000) :
    Calls Try.prog 14 #[.pointer (some ⟨b, 0, none⟩), .int .u16 a, .int .u8 x] wr fun e w' => e = .returned (.tuple #[]) ∧ MemBelow w w' b (M.store a x) := by
  obtain ⟨hb, S, r, hS⟩ := h
  exact (store_rep r h0 h1 hx0 hx1 hl).mono fun e w' ⟨he, d⟩ => ⟨he, MemBelow.done (M := M) hb hS d⟩
theorem choose_bel {w wr : World} {b : Nat} {M : Mm} {x : Int} (h : MemBelow w wr b M) (hx0 : 0 ≤ x) (hx1 : x < 65536) (hl : M.tones.length < 1000000000) :
    Calls Try.prog 11 #[.pointer (some ⟨b, 0, none⟩), .int .u16 x] wr fun e w' => e = .returned (.tuple #[]) ∧ MemBelow w w' b (M.store 65280 (x % 256)) := by
  obtain ⟨hb, S, r, hS⟩ := h
  exact (choose_rep r hx0 hx1 hl).mono fun e w' ⟨he, d⟩ => ⟨he, MemBelow.done (M := M) hb hS d⟩
theorem begin_bel {w wr : World} {b : Nat} {M : Mm} {x : Int} (h : MemBelow w wr b M) (hx0 : 0 ≤ x) (hx1 : x < 256) :
    Calls Try.prog 12 #[.pointer (some ⟨b, 0, none⟩), .int .u8 x] wr fun e w' => e = .returned (.tuple #[]) ∧ MemBelow w w' b (M.begin x) := by
  obtain ⟨hb, S, r, hS⟩ := h
  exact (begin_rep r hx0 hx1).mono fun e w' ⟨he, d⟩ => ⟨he, MemBelow.done (M := M) hb hS d⟩
theorem load_bel {w wr : World} {b : Nat} {M : Mm} {a : Int} (h : MemBelow w wr b M) (h0 : 0 ≤ a) (h1 : a < 65536) :
    Calls Try.prog 15 #[.pointer (some ⟨b, 0, none⟩), .int .u16 a] wr fun e w' => e = .returned (.int .u8 (M.load a)) ∧ Quiet wr w' := by
  obtain ⟨hb, S, r, hS⟩ := h
  exact load_rep r h0 h1
theorem pad_bel {w wr : World} {b : Nat} {M : Mm} (h : MemBelow w wr b M) :
    Calls Try.prog 16 #[.pointer (some ⟨b, 0, none⟩)] wr fun e w' => e = .returned (.int .u8 M.pad) ∧ Quiet wr w' := by
  obtain ⟨hb, S, r, hS⟩ := h
  exact pad_rep r
theorem MemBelow.quiet {w wr w' : World} {b : Nat} {M : Mm} (h : MemBelow w wr b M) (q : Quiet wr w') : MemBelow w w' b M := by
  obtain ⟨hb, S, r, hS⟩ := h
  exact ⟨hb.trans q.below, S, r.quiet q, hS⟩

/-- Cells that a slice holds. -/
def CellsIn (w : World) (v : Value) (l : List Int) : Prop :=
  (∀ x ∈ l, 0 ≤ x ∧ x < 65536) ∧ ∃ a c, v = .slice a l.length c ∧ (0 < l.length → ∃ b o, a = some ⟨b, o, none⟩ ∧ ∀ j, j < l.length → w.cell? ⟨b, o + j, none⟩ = some (.int .u16 (l.getD j 0)))
theorem cellsIn_range {l : List Int} (h : ∀ x ∈ l, 0 ≤ x ∧ x < 65536) (j : Nat) : 0 ≤ l.getD j 0 ∧ l.getD j 0 < 65536 := by
  by_cases hj : j < l.length
  · rw [List.getD_eq_getElem?_getD, List.getElem?_eq_getElem hj]; exact h _ (List.getElem_mem hj)
  · rw [List.getD_eq_getElem?_getD, List.getElem?_eq_none (by omega)]; simp

def wasL (M : Mm) (os : List Int) (k : Nat) : List Int := (List.range k).map fun j => M.load (os.getD j 0)
theorem wasL_succ (M : Mm) (os : List Int) (k : Nat) : byteCells (wasL M os (k + 1)) = byteCells (wasL M os k) ++ [.int .u8 (M.load (os.getD k 0))] := by
  unfold wasL byteCells
  rw [List.range_succ]; simp
theorem wasL_length (M : Mm) (os : List Int) (k : Nat) : (wasL M os k).length = k := by simp [wasL]
theorem wasL_at (M : Mm) (os : List Int) {k j : Nat} (h : j < k) : (wasL M os k).getD j 0 = M.load (os.getD j 0) := by
  unfold wasL
  rw [List.getD_eq_getElem?_getD, List.getElem?_map, List.getElem?_range h]; rfl

set_option maxRecDepth 100000 in
set_option maxHeartbeats 8000000 in
theorem memKeeps_walk (w : World) (v ov : Value) (l : List (Int × List Int)) (dv : Nat → Value) (at_ x : Int) (os : List Int) (hb : BanksIn w v l dv) (hs : Small l) (ha : 0 ≤ at_ ∧ at_ < 65536) (hx : 0 ≤ x ∧ x < 256) (ho : CellsIn w ov os) (hos : os.length ≤ 2000000) :
    Calls Try.prog 3 #[v, .agg #[.int .u16 at_, .int .u8 x], ov] w fun e w' => e = .returned (.bool true) ∧ Below w.heap.size w w' := by
  obtain ⟨A, cap, rfl, hrow⟩ := hb.row
  obtain ⟨hor, oa, oc, rfl, hoc⟩ := ho
  obtain ⟨ha0, ha1⟩ := ha
  obtain ⟨hx0, hx1⟩ := hx
  have HB := Lib.hid hb
  have HR := Lib.hid hrow
  have HS := Lib.hid hs
  have HO := Lib.hid hoc
  have HOR := Lib.hid hor
  clear hb hrow hs hoc hor
  go_enter Try.func3, Try.ntmps3
  go_wp2_with (fail)
  go_quiet (fail)
  go_wp2_with (fail)
  have b0 : Below w.heap.size w ((w.alloc (.cells #[.int .u16 at_, .int .u8 x] 25)).drewN nq) := by
    have h := (Below.refl w.heap.size w).alloc (Nat.le_refl _) (.cells #[.int .u16 at_, .int .u8 x] 25)
    exact ⟨h.os, h.tape, h.output, h.size, h.block⟩
  refine (ownBanks_any _ _ l dv (by exact HB.out.below b0) HS.out).mono ?_
  rintro e w1 ⟨v1, g1, c1, rfl, r1⟩
  have b1 : Below w.heap.size w w1 := b0.trans (r1.below.mono b0.size)
  have hb1 := Lib.hid (r1.banks HB.out.isB)
  clear r1 b0
  go_wp2_with (fail)
  refine (new_any _ _ l _ hb1.out (by have := HS.out.1; omega)).mono ?_
  rintro e w2 ⟨b2', hpost⟩
  have b2 : Below w.heap.size w w2 := b1.trans (b2'.mono b1.size)
  have hsz1 := b1.size
  have hsz2 := b2.size
  rcases hpost with ⟨hok, rfl, S2, r2, hS2⟩ | ⟨hbad, rfl⟩
  rotate_left
  · clear b2' hb1
    go_wp2_with (fail)
    refine (awake_any _).mono ?_
    rintro e w3 ⟨rfl, b3'⟩
    have b3 : Below w.heap.size w w3 := b2.trans (b3'.mono hsz2)
    have HB3 : Hid (BanksIn w3 (.slice A l.length cap) l dv) := HB.out.below b3
    clear b3'
    go_wp2_with (fail)
    refine (may_any _ _ l dv HB3.out HS.out.1).mono ?_
    rintro e w4 ⟨b4', ⟨h4, rfl⟩ | ⟨h4, rfl⟩⟩
    · exact absurd h4 hbad
    · have b4 : Below w.heap.size w w4 := b3.trans (b4'.mono b3.size)
      clear b4' h4 hbad
      go_wp2_with (fail)
      go_ret
      exact ⟨rfl, b4⟩
  have hm2 : Hid (MemBelow w w2 (w1.heap.size + 1) (newMem l l.length)) := ⟨b2, S2, r2, fun i hi => by have := hS2 i hi; omega⟩
  have HK := Lib.hid hok
  clear b2' hb1 r2 hS2 hok
  generalize w1.heap.size + 1 = bb at *
  clear b1 hsz1
  go_wp2_with (fail)
  refine (awake_any _).mono ?_
  rintro e w3 ⟨rfl, b3'⟩
  have b3 : Below w.heap.size w w3 := b2.trans (b3'.mono hsz2)
  have hm3 : Hid (MemBelow w w3 bb (newMem l l.length)) := by
    obtain ⟨q1, S, r, hS⟩ := hm2.out
    exact ⟨b3, S, r.stays (fun i hi => b3'.block i (r.lt i hi)), hS⟩
  have hsz3 := b3.size
  clear b3' hm2
  obtain ⟨M1, hM1⟩ : ∃ M1, M1 = (if l = [] then newMem l l.length else (newMem l l.length).store 65280 ((l.getD 0 (0, [])).1 % 65536 % 256)) := ⟨_, rfl⟩
  have HM1 := Lib.hid hM1
  clear hM1
  go_upto_if 50 with (fail)
  go_cut [] (fun wx => MemBelow w wx bb M1)
  case first =>
    by_cases h0 : 0 < l.length
    · have hl0 : l ≠ [] := List.length_pos_iff.1 h0
      obtain ⟨ab, ao, rfl, hcc⟩ := HR.out h0
      have cz : w3.cell? ⟨ab, ao, none⟩ = some (.int .i64 (l.getD 0 (0, [])).1) := by
        have := cell_keep b3 (hcc 0 h0).1 (World.block_lt_of_cell? w _ (hcc 0 h0).1)
        rw [Nat.zero_mul, Nat.add_zero] at this; exact this
      obtain ⟨n0, hn0⟩ : ∃ n0, n0 = (l.getD 0 (0, [])).1 := ⟨_, rfl⟩
      rw [← hn0] at cz
      have hnr : 0 ≤ n0 ∧ n0 ≤ 15 := by
        have q := HK.out 0 h0
        have q1 := q.1
        have q2 := q.2.1
        rw [← hn0] at q1 q2
        unfold lastAt at q1
        simp at q1
        omega
      have hn1 := hnr.1
      have hn2 := hnr.2
      have HN := Lib.hid hn0
      clear hn0 hcc hnr
      go_wp2_with (fail)
      refine (choose_bel hm3.out (by omega) (by omega) (by show (0 : Nat) < _; omega)).mono ?_
      rintro e w4 ⟨rfl, hm4'⟩
      have hm4 : Hid (MemBelow w w4 bb M1) := by
        rw [HM1.out, if_neg hl0, ← HN.out, show n0 % 65536 % 256 = n0 % 256 by omega]; exact hm4'
      clear hm4' hm3 hl0 cz HN hn1 hn2
      go_wp2_with (fail)
      go_meet
      exact hm4.out
    · have hm4 : Hid (MemBelow w w3 bb M1) := by
        rw [HM1.out, if_pos (List.eq_nil_of_length_eq_zero (by omega))]; exact hm3.out
      go_wp2_with (fail)
      go_meet
      exact hm4.out
  case rest =>
    have hm4 := Lib.hid hcut
    clear hcut hm3
    go_wp2_with (fail)
    refine (begin_bel hm4.out (by omega) (by omega)).mono ?_
    rintro e w5 ⟨rfl, hm5'⟩
    have hm5 : Hid (MemBelow w w5 bb (keepStart l)) := by
      have : keepStart l = M1.begin 77 := by rw [HM1.out]; rfl
      rw [this]; exact hm5'
    have kf := Lib.hid (keepStart_facts HK.out)
    have hsz5 := hm5.out.1.size
    clear hm5' hm4
    go_wp2_with (fail)
    go_loopw [62] (fun i wr => ∃ k : Nat, k ≤ os.length ∧ i = .int .i64 k ∧ MemBelow w wr bb (keepFold (keepStart l) os k)) (fun i _ => os.length - (intOf i).toNat)
    case atStart => exact ⟨0, Nat.zero_le _, rfl, hm5.out⟩
    case' round =>
      obtain ⟨k, hk, rfl, hrel⟩ := hrel
      by_cases hlt : k < os.length
      case pos =>
        obtain ⟨ob, oo, rfl, hcc⟩ := HO.out (by omega)
        have oc' : wr.cell? ⟨ob, oo + k, none⟩ = some (.int .u16 (os.getD k 0)) := cell_keep hrel.1 (hcc k hlt) (World.block_lt_of_cell? w _ (hcc k hlt))
        have hr := cellsIn_range HOR.out k
        obtain ⟨q, hq⟩ : ∃ q, q = os.getD k 0 := ⟨_, rfl⟩
        rw [← hq] at oc' hr
        obtain ⟨hr0, hr1⟩ := hr
        have Hq := Lib.hid hq
        have Hrel := Lib.hid hrel
        have kt := Lib.hid (show (keepFold (keepStart l) os k).tones.length < 1000000000 by rw [(keepFold_same _ _ k).2.2.2.1, kf.out.2.2.1]; decide)
        clear hq hrel hcc
        by_cases hp : isPlain q
        · have Hp := Lib.hid hp
          have dp : decide (16384 ≤ q ∧ q < 52224) = true := by simp; exact hp
          have hn : Hid (∀ w', MemBelow w w' bb ((keepFold (keepStart l) os k).store q (((k : Int) + 1) % 256)) → MemBelow w w' bb (keepFold (keepStart l) os (k + 1))) := by
            intro w' h
            unfold keepFold keepStep
            rw [← Hq.out, if_pos Hp.out]; exact h
          clear hp
          go_wp2_with (fail)
          refine (plain_any _ _).mono ?_
          rintro e w6 ⟨rfl, rfl⟩
          rw [dp]
          go_wp2_with (fail)
          refine (store_bel Hrel.out (by omega) (by omega) (by omega) (by omega) kt.out).mono ?_
          rintro e w7 ⟨rfl, hm7⟩
          have hm8 := Lib.hid (hn.out w7 hm7)
          clear hm7
          go_wp2_with (fail)
          go_roundw
          case rel => exact ⟨k + 1, hlt, by go_num, hm8.out⟩
          case measure => simp [intOf]; omega
        · have Hp := Lib.hid hp
          have dp : decide (16384 ≤ q ∧ q < 52224) = false := by simp; intro h; exact Int.not_lt.1 (fun h' => hp ⟨h, h'⟩)
          have hn : Hid (MemBelow w wr bb (keepFold (keepStart l) os (k + 1))) := by
            show MemBelow w wr bb (keepFold (keepStart l) os (k + 1))
            unfold keepFold keepStep
            rw [← Hq.out, if_neg Hp.out]; exact Hrel.out
          clear hp
          go_wp2_with (fail)
          refine (plain_any _ _).mono ?_
          rintro e w6 ⟨rfl, rfl⟩
          rw [dp]
          go_wp2_with (fail)
          go_roundw
          case rel => exact ⟨k + 1, hlt, by go_num, hn.out⟩
          case measure => simp [intOf]; omega
      case' neg =>
        have hke : k = os.length := by omega
        have hm6 := Lib.hid (hke ▸ hrel)
        clear hrel hke
        go_wp2_with (fail)
    obtain ⟨wo, hwo⟩ : ∃ wo : World, wo = wr := ⟨_, rfl⟩
    rw [← hwo] at hm6
    rw [← hwo]
    clear hwo
    obtain ⟨i0, hi, hz0, hz1, hz2⟩ := info_parts infoU8
    obtain ⟨M3, hM3⟩ : ∃ M3, M3 = keepFold (keepStart l) os os.length := ⟨_, rfl⟩
    rw [← hM3] at hm6
    have HM3 := Lib.hid hM3
    have hszo := hm6.out.1.size
    clear hM3
    go_loopw [13, 78] (fun v i wr => ∃ k : Nat, k ≤ os.length ∧ i = .int .i64 k ∧ wr.ownsRow wo.heap.size 5 1 v k (byteCells (wasL M3 os k)) ∧ Below wo.heap.size wo wr) (fun _ i _ => os.length - (intOf i).toNat)
    case atStart => exact ⟨0, Nat.zero_le _, rfl, World.ownsRow_nil _ _ _ _, Below.refl _ _⟩
    case' round =>
      obtain ⟨k, hk, rfl, hrow, hbo⟩ := hrel
      by_cases hlt : k < os.length
      case pos =>
        obtain ⟨ob, oo, rfl, hcc⟩ := HO.out (by omega)
        have hwr : Below w.heap.size w wr := hm6.out.1.trans (hbo.mono hszo)
        have oc' : wr.cell? ⟨ob, oo + k, none⟩ = some (.int .u16 (os.getD k 0)) := cell_keep hwr (hcc k hlt) (World.block_lt_of_cell? w _ (hcc k hlt))
        have hr := cellsIn_range HOR.out k
        obtain ⟨q, hq⟩ : ∃ q, q = os.getD k 0 := ⟨_, rfl⟩
        rw [← hq] at oc' hr
        obtain ⟨hr0, hr1⟩ := hr
        have Hq := Lib.hid hq
        have hmr : Hid (MemBelow w wr bb M3) := by
          obtain ⟨q1, S, r, hS⟩ := hm6.out
          exact ⟨hwr, S, r.stays (fun i hi => hbo.block i (r.lt i hi)), hS⟩
        have Hrow := Lib.hid hrow
        have Hbo := Lib.hid hbo
        have hszr := hbo.size
        have lr := Lib.hid (Mm.load_range (hmr.out.2.choose_spec.1.isOk) q)
        clear hq hrow hbo hcc hwr
        go_wp2_with (fail)
        refine (load_bel hmr.out (by omega) (by omega)).mono ?_
        rintro e w7 ⟨rfl, q7⟩
        have hsz7 : w7.heap.size = wr.heap.size := by rw [q7.heap]
        have Hsz7 := Lib.hid hsz7
        have hle7 : wo.heap.size ≤ w7.heap.size := by omega
        have Hown7 : Hid ((w7.alloc (.cells #[.int .u8 (M3.load q)] 5)).ownsRow wo.heap.size 5 1 u13 k (byteCells (wasL M3 os k))) := (ownsRow_heap (w' := w7) Hrow.out (fun b _ => by rw [q7.heap])).alloc _
        have Hn7 : Hid (∀ j u, ([.int .u8 (M3.load q)] : List Value)[j]? = some u → (w7.alloc (.cells #[.int .u8 (M3.load q)] 5)).cell? ((⟨w7.heap.size, 0, none⟩ : Addr).add j) = some u) := by
          intro j u hj'
          have hj0 : j < 1 := by have := (List.getElem?_eq_some_iff.1 hj').1; simpa using this
          rw [addr_add, Nat.zero_add, cell_of (heap_alloc_at w7 _)]
          simpa using hj'
        have fin : Hid (∀ (v' : Value) (w8 : World), w8.ownsRow wo.heap.size 5 1 v' (k + 1) (byteCells (wasL M3 os k) ++ [.int .u8 (M3.load q)]) → (w7.alloc (.cells #[.int .u8 (M3.load q)] 5)).grownBy w8 u13.ownBlock →
            w8.ownsRow wo.heap.size 5 1 v' (k + 1) (byteCells (wasL M3 os (k + 1))) ∧ Below wo.heap.size wo w8) := by
          intro v' w8 h1 h2
          refine ⟨?_, ?_⟩
          · rw [wasL_succ, ← Hq.out]; exact h1
          · exact ((Hbo.out.trans q7.below).alloc hle7 _).grown h2 (by simp; omega) (fun b hb => (Hrow.out.lt b hb).1)
        clear q7 hsz7
        go_wp2_with (at_builtin; refine wpList_append_own _ rfl _ _ 35 rfl wo.heap.size 5 i0 _ 1 1 Try.underlying35 hi hz0 hz1 hz2 rfl (by decide) _ k (byteCells (wasL M3 os k)) rfl Hown7.out ⟨w7.heap.size, 0, none⟩ 1 1 [.int .u8 (M3.load q)] rfl rfl Hn7.out (by simp [Value.oneCell']) (by simp only [maxLen]; omega) (by omega) (by simp; omega) ?_; intro v' w8 ho' hgr hnil; have f8 := Lib.hid (fin.out v' w8 ho' hgr); clear ho' hgr hnil)
        go_roundw
        case rel => exact ⟨k + 1, hlt, by go_num, f8.out⟩
        case measure => simp [intOf]; omega
      case' neg =>
        have hke : k = os.length := by omega
        have hm7 : Hid (MemBelow w wr bb M3) := by
          obtain ⟨q1, S, r, hS⟩ := hm6.out
          exact ⟨q1.trans (hbo.mono hszo), S, r.stays (fun i hi => hbo.block i (r.lt i hi)), hS⟩
        have Hrow := Lib.hid (hke ▸ hrow)
        have Hbo := Lib.hid hbo
        clear hrow hbo hke
        go_upto_region 22 with (fail)
    obtain ⟨th, hth⟩ : ∃ th : Bool, th = decide (32768 ≤ at_ ∨ 0 < l.length) := ⟨_, rfl⟩
    have Hth := Lib.hid hth
    clear hth
    go_cut [16] (fun s wx => s = .bool th ∧ wr = wx)
    case first =>
      by_cases g1 : 32768 ≤ at_
      · have e : Hid (th = true) := by show th = true; rw [Hth.out]; simp [g1]
        go_wp2_with (fail)
        go_meet
        rw [e.out]
        exact ⟨rfl, rfl⟩
      · by_cases g2 : 0 < l.length
        · have e : Hid (th = true) := by show th = true; rw [Hth.out]; simp [g2]
          have d2 : decide (0 < l.length) = true := by simpa using g2
          go_wp2_with (fail)
          go_meet
          rw [e.out]
          exact ⟨rfl, rfl⟩
        · have e : Hid (th = false) := by show th = false; rw [Hth.out]; simp only [decide_eq_false_iff_not]; omega
          have d2 : decide (0 < l.length) = false := by simpa using g2
          go_wp2_with (fail)
          go_meet
          rw [e.out]
          exact ⟨rfl, rfl⟩
    case' rest =>
      obtain ⟨rfl, rfl⟩ := hcut
      obtain ⟨M4, hM4⟩ : ∃ M4, M4 = M3.store at_ x := ⟨_, rfl⟩
      have k3 := keepFold_same (keepStart l) os os.length
      rw [← HM3.out] at k3
      have k4 := Mm.store_pad M3 at_ x
      rw [← hM4] at k4
      have hpad : Hid (M4.pad = 77) := by rw [show M4.pad = _ from k4.1, k3.2.1, kf.out.1]; rfl
      have hl1 : Hid (M4.load 65282 = 77) := by rw [Mm.load_pad]; exact hpad.out
      have hl2 : Hid (M4.load 65288 = 1) := by show _ = _; rw [Mm.load_time, k4.2, k3.2.2.1, kf.out.2.1]; rfl
      have htn : Hid (M3.tones.length < 1000000000) := by show _ < _; rw [k3.2.2.2.1, kf.out.2.2.1]; decide
      obtain ⟨y, hy⟩ : ∃ y, M4.load at_ = y := ⟨_, rfl⟩
      have e1 : Hid (isPlain at_ → th = true → y = x) := by
        intro h1 h2
        rw [← hy, hM4]
        refine load_store_same M3 at_ x h1 (fun h3 => ?_)
        rw [k3.1]
        intro h4
        exact kf.out.2.2.2 (List.length_pos_iff.1 (by rw [Hth.out] at h2; simp only [decide_eq_true_eq] at h2; omega)) ((k3.2.2.2.2 _).1 h4)
      have e2 : Hid (at_ < 16384 → y = 0) := fun h => by rw [← hy]; exact Mm.load_low M4 h
      have e3 : Hid (∀ o, 0 ≤ o → ¬ o = at_ → ¬ (at_ = 65280 ∧ 16384 ≤ o ∧ o < 32768) → o < 65280 → M4.load o = M3.load o) := fun o h1 h2 h3 h4 => by rw [hM4]; exact load_store_other M3 at_ x o h1 h2 h3 h4
      have HY := Lib.hid hy
      have HM4 := Lib.hid hM4
      have hst : Hid (∃ S, MemRep wr bb M3 S ∧ (∀ i, S i → w.heap.size ≤ i) ∧ ∀ i, S i → i < wo.heap.size) := by
        obtain ⟨q1, S, r, hS⟩ := hm6.out
        exact ⟨S, r.stays (fun i hi => Hbo.out.block i (r.lt i hi)), hS, r.lt⟩
      clear hy hM4 k3 k4
      go_wp2_with (fail)
      obtain ⟨S, rS, hS1, hS2⟩ := hst.out
      refine (store_rep rS ha0 ha1 hx0 hx1 htn.out).mono ?_
      rintro e w8 ⟨rfl, d8⟩
      rw [← HM4.out] at d8
      have hm8 : Hid (MemBelow w w8 bb M4) := MemBelow.done (M := M3) hm7.out.1 hS1 d8
      have Hrow8 : Hid (w8.ownsRow wo.heap.size 5 1 u13 os.length (byteCells (wasL M3 os os.length))) := ownsRow_heap Hrow.out (fun b hb => d8.upd.block b (ownBlock_lt Hrow.out hb) (fun hs => by have h1 := (Hrow.out.lt b hb).1; have h2 := hS2 b hs; omega))
      have HQ : Hid (∀ w', Quiet w8 w' → MemBelow w w' bb M4) := fun w' q => hm8.out.quiet q
      clear d8 rS hS1 hS2 hst hm7 Hrow Hbo
      go_upto_region 24 with (fail)
      go_cut [136] (fun s wx => s = .bool false ∧ Quiet w8 wx)
      case first =>
        have q0 : Quiet w8 w8 := Quiet.refl _
        have t3 : Hid (y ≠ 0 → decide (at_ < 16384) = false) := fun h => by simp; exact Int.not_lt.1 (fun h' => h (e2.out h'))
        by_cases hp : isPlain at_
        case' pos =>
          have dp : decide (16384 ≤ at_ ∧ at_ < 52224) = true := by simp; exact hp
          have ey := e1.out hp
          cases th
          case' true =>
            have t1 : (y != x) = false := by simp [ey rfl]
        case' neg =>
          have dp : decide (16384 ≤ at_ ∧ at_ < 52224) = false := by simp; intro h; exact Int.not_lt.1 (fun h' => hp ⟨h, h'⟩)
        all_goals
          by_cases hy0 : y = 0
          case' pos =>
            have t2 : (y != 0) = false := by simp [hy0]
          case' neg =>
            have t2 : (y != 0) = true := by simp [hy0]
            have t4 := t3.out hy0
        all_goals
          clear hy0
          try clear ey
          clear hp
          go_wp2_with (first
            | (go_at_call 13; refine (plain_any _ _).mono ?_; rintro e wz ⟨rfl, rfl⟩; rw [dp])
            | (go_at_call 16; refine (pad_bel (HQ.out _ (by assumption))).mono ?_; rintro e wz ⟨rfl, qz⟩; rw [hpad.out]; replace q0 := Quiet.trans q0 qz; clear qz)
            | (go_at_call 15; refine (load_bel (HQ.out _ (by assumption)) (by omega) (by omega)).mono ?_; rintro e wz ⟨rfl, qz⟩; (first | rw [hl1.out] | rw [hl2.out] | rw [HY.out]); replace q0 := Quiet.trans q0 qz; clear qz))
          go_meet
          exact ⟨rfl, q0⟩
      case' rest =>
        obtain ⟨rfl, q9⟩ := hcut
        go_wp2_with (fail)
        go_loopw [139] (fun i wr => ∃ k : Nat, k ≤ os.length ∧ i = .int .i64 k ∧ Quiet w8 wr) (fun i _ => os.length - (intOf i).toNat)
        case atStart => exact ⟨0, Nat.zero_le _, rfl, q9⟩
        case' round =>
          obtain ⟨k, hk, rfl, hq⟩ := hrel
          by_cases hlt : k < os.length
          case pos =>
            obtain ⟨ob, oo, rfl, hcc⟩ := HO.out (by omega)
            have hmr := Lib.hid (HQ.out _ hq)
            have oc' : wr.cell? ⟨ob, oo + k, none⟩ = some (.int .u16 (os.getD k 0)) := cell_keep hmr.out.1 (hcc k hlt) (World.block_lt_of_cell? w _ (hcc k hlt))
            have hr := cellsIn_range HOR.out k
            have hsh : ∃ wg wcap, u13 = .slice (some ⟨wg, 0, none⟩) os.length wcap ∧ wr.cell? ⟨wg, k, none⟩ = some (.int .u8 (M3.load (os.getD k 0))) := by
              rcases Hrow8.out.2 with ⟨_, h0⟩ | ⟨wg, wcap, cur, h1, _, hh, _, _, _, hcur⟩
              · omega
              · refine ⟨wg, wcap, h1, ?_⟩
                have hh' : wr.heap[wg]? = some (.cells cur 5 (0, 0)) := by rw [hq.heap]; exact hh
                rw [cell_of hh', ← Array.getElem?_toList]
                have h2 : (byteCells (wasL M3 os os.length))[k]? = some (.int .u8 (M3.load (os.getD k 0))) := by
                  unfold byteCells
                  rw [List.getElem?_map, ← wasL_at M3 os hlt, List.getD_eq_getElem?_getD, List.getElem?_eq_getElem (by rw [wasL_length]; exact hlt)]; rfl
                rw [← hcur, List.getElem?_take] at h2
                split at h2
                · exact h2
                · cases h2
            obtain ⟨wg, wcap, rfl, cw⟩ := hsh
            obtain ⟨q, hqq⟩ : ∃ q, q = os.getD k 0 := ⟨_, rfl⟩
            rw [← hqq] at oc' hr cw
            obtain ⟨hr0, hr1⟩ := hr
            have hcall : Hid (∀ n, Calls Try.prog 15 #[.pointer (some ⟨bb, 0, none⟩), .int .u16 q] (wr.drewN n) (fun e w'' => e = .returned (.int .u8 (M4.load q)) ∧ ∃ m, w'' = wr.drewN m)) := by
              intro n
              exact Calls.quiet_of ((load_bel (w := w) (hmr.out.quiet ⟨n, rfl⟩) hr0 hr1).mono fun e w' h => h)
            have hsame := Lib.hid (e3.out q hr0)
            have hstep : Hid (∀ n, Quiet w8 (wr.drewN n)) := fun n => hq.trans ⟨n, rfl⟩
            have Hq := Lib.hid hq
            clear hqq hcc hq
            by_cases a1 : q = at_
            · have b1 : (q == at_) = true := by simpa using a1
              clear a1
              go_wp2_with (fail)
              go_roundw
              case rel => exact ⟨k + 1, hlt, by go_num, Hq.out⟩
              case measure => simp [intOf]; omega
            have b1 : (q == at_) = false := by simpa using a1
            by_cases a2 : at_ = 65280
            · have b2 : (at_ == 65280) = true := by simpa using a2
              by_cases a3 : 16384 ≤ q
              · have b3 : decide (16384 ≤ q) = true := by simpa using a3
                by_cases a4 : q < 32768
                · have b4 : decide (q < 32768) = true := by simpa using a4
                  clear a1 a2
                  go_wp2_with (fail)
                  go_roundw
                  case rel => exact ⟨k + 1, hlt, by go_num, Hq.out⟩
                  case measure => simp [intOf]; omega
                have b4 : decide (q < 32768) = false := by simpa using a4
                by_cases a5 : 65280 ≤ q
                · have b5 : decide (65280 ≤ q) = true := by simpa using a5
                  clear a1 a2
                  go_wp2_with (fail)
                  go_roundw
                  case rel => exact ⟨k + 1, hlt, by go_num, Hq.out⟩
                  case measure => simp [intOf]; omega
                have b5 : decide (65280 ≤ q) = false := by simpa using a5
                have el := Lib.hid (hsame.out a1 (by omega) (by omega))
                clear a1 a2
                go_wp2_with (fail)
                rw [el.out] at hcall
                go_quiet ((go_at_call 15; exact hcall.out _))
                go_wp2_with (fail)
                go_roundw
                case rel => exact ⟨k + 1, hlt, by go_num, hstep.out _⟩
                case measure => simp [intOf]; omega
              have b3 : decide (16384 ≤ q) = false := by simpa using a3
              have b5 : decide (65280 ≤ q) = false := by simp; omega
              have el := Lib.hid (hsame.out a1 (by omega) (by omega))
              clear a1 a2
              go_wp2_with (fail)
              rw [el.out] at hcall
              go_quiet ((go_at_call 15; exact hcall.out _))
              go_wp2_with (fail)
              go_roundw
              case rel => exact ⟨k + 1, hlt, by go_num, hstep.out _⟩
              case measure => simp [intOf]; omega
            have b2 : (at_ == 65280) = false := by simpa using a2
            by_cases a5 : 65280 ≤ q
            · have b5 : decide (65280 ≤ q) = true := by simpa using a5
              clear a1 a2
              go_wp2_with (fail)
              go_roundw
              case rel => exact ⟨k + 1, hlt, by go_num, Hq.out⟩
              case measure => simp [intOf]; omega
            have b5 : decide (65280 ≤ q) = false := by simpa using a5
            have el := Lib.hid (hsame.out a1 (by omega) (by omega))
            clear a1 a2
            go_wp2_with (fail)
            rw [el.out] at hcall
            go_quiet ((go_at_call 15; exact hcall.out _))
            go_wp2_with (fail)
            go_roundw
            case rel => exact ⟨k + 1, hlt, by go_num, hstep.out _⟩
            case measure => simp [intOf]; omega
          case neg =>
            have hke : k = os.length := by omega
            have fin : Hid (Below w.heap.size w wr) := (HQ.out _ hq).1
            clear hke
            go_wp2_with (fail)
            go_ret
            exact ⟨rfl, fin.out⟩
end Go.Proofs.Ytabeljpnmmfpgaa
