/-
  The instruction at an address.
  The instruction at an address: the ways behind flow's operand.
  The instruction at an address: joined.
-/
import Derived.Lib.Hide
import Derived.Test.YtabeljpnmmfpgaaDoorFlPrim
namespace Go.Proofs.YtabeljpnmmfpgaaDoor
open Go.RowKit Go.MapKept
set_option linter.unusedVariables false
set_option linter.unusedSimpArgs false

structure FI where
  at_ : Int
  op : Int
  operand : Int
  word : Int
  next : Int
def FI.zero : FI := ⟨0, 0, 0, 0, 0⟩
def FI.val (x : FI) : Value := .agg #[.int .u16 x.at_, .int .i64 x.op, .int .u16 x.operand, .int .u16 x.word, .int .u16 x.next]

/-- The instruction at an address, or its error. -/
def lookAt (code : List Int) (a : Int) : FI × Int :=
  match cellOf code a with
  | none => (FI.zero, 162)
  | some t => match cellOf code t with
    | none => (FI.zero, 161)
    | some c =>
      if c < 1 ∨ 64 ≤ c then (FI.zero, 161)
      else if c = 1 then (⟨a, 1, 0, t, IntKind.u16.wrap (a + 2)⟩, 0)
      else if c = 2 then match cellOf code (IntKind.u16.wrap (t + 2)) with
        | none => (FI.zero, 162)
        | some v => (⟨a, 2, v, t, IntKind.u16.wrap (a + 2)⟩, 0)
      else if hasOperand c = true then match cellOf code (IntKind.u16.wrap (a + 2)) with
        | none => (FI.zero, 162)
        | some v => if c ≠ 3 ∧ cellOf code v = none then (FI.zero, 160) else (⟨a, c, v, 0, IntKind.u16.wrap (a + 4)⟩, 0)
      else (⟨a, c, 0, 0, IntKind.u16.wrap (a + 2)⟩, 0)

theorem cellOf_range {code : List Int} (hb : ∀ j, 0 ≤ code.getD j 0 ∧ code.getD j 0 < 256) {a v : Int} (h : cellOf code a = some v) : 0 ≤ v ∧ v < 65536 := by
  unfold cellOf at h
  split at h
  · have e := Option.some.inj h
    have h1 := hb a.toNat
    have h2 := hb (a.toNat + 1)
    omega
  · cases h
theorem wrap16_range (a : Int) : 0 ≤ IntKind.u16.wrap a ∧ IntKind.u16.wrap a < 65536 := by
  simp [IntKind.wrap, IntKind.bits, IntKind.signed]; omega

/-- A world that comes of another by new blocks alone, as the walk writes it. -/
theorem b_alloc {a b : World} (h : Below a.heap.size a b) (o : Obj) : Below a.heap.size a (b.alloc o) := h.alloc h.size o
theorem b_drewN {B : Nat} {a b : World} (h : Below B a b) (n : Nat) : Below B a (b.drewN n) := ⟨h.os, h.tape, h.output, h.size, h.block⟩
theorem b_then {a b c : World} (h : Below a.heap.size a b) (k : Below b.heap.size b c) : Below a.heap.size a c := h.trans ⟨k.os, k.tape, k.output, k.size, fun i hi => k.block i (Nat.lt_of_lt_of_le hi h.size)⟩

theorem set5 {W : World} {b : Nat} {t : TypeId} {v0 v1 v2 v3 v4 : Value} (h : W.heap[b]? = some (.cells #[v0, v1, v2, v3, v4] t (0, 0))) (u0 u1 u2 u3 u4 : Value) :
    (World.setCell (World.setCell (World.setCell (World.setCell (World.setCell W ⟨b, 0, none⟩ u0) ⟨b, 1, none⟩ u1) ⟨b, 2, none⟩ u2) ⟨b, 3, none⟩ u3) ⟨b, 4, none⟩ u4).heap[b]? = some (.cells #[u0, u1, u2, u3, u4] t (0, 0)) :=
  heap_set_cell (heap_set_cell (heap_set_cell (heap_set_cell (heap_set_cell h 0 u0) 1 u1) 2 u2) 3 u3) 4 u4
theorem below5 {W : World} {B b : Nat} {a : World} (h : Below B a W) (hb : B ≤ b) (u0 u1 u2 u3 u4 : Value) :
    Below B a (World.setCell (World.setCell (World.setCell (World.setCell (World.setCell W ⟨b, 0, none⟩ u0) ⟨b, 1, none⟩ u1) ⟨b, 2, none⟩ u2) ⟨b, 3, none⟩ u3) ⟨b, 4, none⟩ u4) :=
  below_set1 (below_set1 (below_set1 (below_set1 (below_set1 h hb _ _) hb _ _) hb _ _) hb _ _) hb _ _
theorem cells5 {w : World} {b : Nat} {v0 v1 v2 v3 v4 : Value} {t : TypeId} (h : w.heap[b]? = some (.cells #[v0, v1, v2, v3, v4] t (0, 0))) :
    (w.cell? ⟨b, 0, none⟩ = some v0 ∧ w.cell? ⟨b, 1, none⟩ = some v1 ∧ w.cell? ⟨b, 2, none⟩ = some v2 ∧ w.cell? ⟨b, 3, none⟩ = some v3 ∧ w.cell? ⟨b, 4, none⟩ = some v4) ∧
    w.frozen? ⟨b, 0, none⟩ = false ∧ w.frozen? ⟨b, 1, none⟩ = false ∧ w.frozen? ⟨b, 2, none⟩ = false ∧ w.frozen? ⟨b, 3, none⟩ = false ∧ w.frozen? ⟨b, 4, none⟩ = false :=
  ⟨⟨cell_of h 0, cell_of h 1, cell_of h 2, cell_of h 3, cell_of h 4⟩, free_of h 0, free_of h 1, free_of h 2, free_of h 3, free_of h 4⟩

def zeroI : Obj := .cells #[.int .u16 0, .int .i64 0, .int .u16 0, .int .u16 0, .int .u16 0] 60
/-- The result's own cells stand as they were laid. -/
def ZeroAt (w W : World) : Prop := W.heap[w.heap.size]? = some (.cells #[.int .u16 0, .int .i64 0, .int .u16 0, .int .u16 0, .int .u16 0] 60 (0, 0))
theorem ZeroAt.start (w : World) : ZeroAt w (w.alloc (.cells #[.int .u16 0, .int .i64 0, .int .u16 0, .int .u16 0, .int .u16 0] 60)) := heap_alloc_at w _
theorem ZeroAt.alloc {w W : World} (h : ZeroAt w W) (o : Obj) : ZeroAt w (W.alloc o) := heap_alloc_old h
theorem ZeroAt.drewN {w W : World} (h : ZeroAt w W) (n : Nat) : ZeroAt w (W.drewN n) := h
theorem ZeroAt.set {w W : World} (h : ZeroAt w W) {g i : Nat} (hg : w.heap.size + 1 ≤ g) (v : Value) : ZeroAt w (W.setCell ⟨g, i, none⟩ v) := (heap_set_far (by omega)).trans h
theorem ZeroAt.below {w W W' : World} (h : ZeroAt w W) (hb : Below W.heap.size W W') : ZeroAt w W' := (hb.block _ (heap_lt h)).trans h
theorem tail_rw {P : Program} {f : Func} {Q : Ending → World → Prop} {a : Act} {w W : World} {u0 u1 u2 u3 u4 : Value} (hz : ZeroAt w W) (hB : Below w.heap.size w W)
    (k : ∀ V, V.heap[w.heap.size]? = some (.cells #[u0, u1, u2, u3, u4] 60 (0, 0)) → Below w.heap.size w V → bodyPost P f Q Exit.ret a V) :
    bodyPost P f Q Exit.ret a (World.setCell (World.setCell (World.setCell (World.setCell (World.setCell W ⟨w.heap.size, 0, none⟩ u0) ⟨w.heap.size, 1, none⟩ u1) ⟨w.heap.size, 2, none⟩ u2) ⟨w.heap.size, 3, none⟩ u3) ⟨w.heap.size, 4, none⟩ u4) :=
  k _ (set5 hz u0 u1 u2 u3 u4) (below5 hB (Nat.le_refl _) u0 u1 u2 u3 u4)

theorem tail_rw2 {P : Program} {f : Func} {Q : Ending → World → Prop} {a : Act} {w W : World} {o : Obj} {u0 u1 u2 u3 u4 : Value} (hz : ZeroAt w W) (hB : Below w.heap.size w W)
    (k : ∀ V, V.heap[w.heap.size]? = some (.cells #[u0, u1, u2, u3, u4] 60 (0, 0)) → Below w.heap.size w V → bodyPost P f Q Exit.ret a V) :
    bodyPost P f Q Exit.ret a (World.alloc (World.setCell (World.setCell (World.setCell (World.setCell (World.setCell W ⟨w.heap.size, 0, none⟩ u0) ⟨w.heap.size, 1, none⟩ u1) ⟨w.heap.size, 2, none⟩ u2) ⟨w.heap.size, 3, none⟩ u3) ⟨w.heap.size, 4, none⟩ u4) o) :=
  k _ (heap_alloc_old (set5 hz u0 u1 u2 u3 u4)) (b_alloc (below5 hB (Nat.le_refl _) u0 u1 u2 u3 u4) o)

/-- What the walk of instr calls. -/
structure InstrEnv (w : World) (A : Option Addr) (c : Nat) (code : List Int) : Prop where
  cell : ∀ W a, Below w.heap.size w W → 0 ≤ a → a < 65536 → Calls Tryd.prog 51 #[.slice A code.length c, .int .u16 a] W fun e w' => e = .returned (.tuple #[.int .u16 ((cellOf code a).getD 0), .bool (cellOf code a).isSome]) ∧ Quiet W w'
  oper : ∀ W op, Below w.heap.size w W → 1 ≤ op → op < 64 → Calls Tryd.prog 56 #[.int .i64 op] W fun e w' => e = .returned (.bool (hasOperand op)) ∧ Below W.heap.size W w'
theorem InstrEnv.mk' {w : World} {A : Option Addr} {c : Nat} {code : List Int} (h : CodeIn w A code) (ht : Tab w) : InstrEnv w A c code :=
  ⟨fun W a hW h0 h1 => cell_any W A c code a (h.below hW) h0 h1, fun W op hW h1 h2 => operand_any W op (ht.below hW) h1 h2⟩

set_option maxRecDepth 100000 in
set_option maxHeartbeats 4000000 in
theorem instr_fall (w : World) (A : Option Addr) (c : Nat) (code : List Int) (a : Int) (E : InstrEnv w A c code) (h0 : 0 ≤ a) (h1 : a < 65536) (hc : cellOf code a = none) :
    Calls Tryd.prog 52 #[.slice A code.length c, .int .u16 a] w fun e w' => e = .returned (.tuple #[FI.zero.val, .int .i64 162]) ∧ Below w.heap.size w w' := by
  have EH := Lib.hid E
  clear E
  go_enter Tryd.func52, Tryd.ntmps52
  go_wp2_with ((go_at_call 51; refine (EH.out.cell _ _ (by repeat (first | exact Below.refl _ _ | apply b_alloc | apply b_drewN | (refine below_set1 ?_ (by simp; done) _ _))) (by first | assumption | exact (wrap16_range _).1) (by first | assumption | exact (wrap16_range _).2)).mono ?_; rintro e W ⟨rfl, k, rfl⟩))
  all_goals first
    | (refine tail_rw ?hz ?hb ?k
       case hz => repeat (first | exact ZeroAt.start _ | exact HZ.out | apply ZeroAt.alloc | apply ZeroAt.drewN | (refine ZeroAt.set ?_ (by simp; done) _))
       case hb => repeat (first | exact Below.refl _ _ | exact HW.out | apply b_alloc | apply b_drewN | (refine below_set1 ?_ (by simp; done) _ _))
       case k =>
         intro V hb hB
         obtain ⟨⟨g0, g1, g2, g3, g4⟩, _⟩ := cells5 hb
         clear hb
         refine bodyPost_ret (v := .tuple #[.agg #[.int .u16 (0), .int .i64 (0), .int .u16 (0), .int .u16 (0), .int .u16 (0)], .int .i64 162]) (by simp [results, Tryd.results52, go_sem, g0, g1, g2, g3, g4]) rfl ⟨rfl, hB⟩)
    | (exfalso; omega)

set_option maxRecDepth 100000 in
set_option maxHeartbeats 4000000 in
theorem instr_none (w : World) (A : Option Addr) (c : Nat) (code : List Int) (a : Int) (t : Int) (E : InstrEnv w A c code) (h0 : 0 ≤ a) (h1 : a < 65536) (hb : 0 ≤ t ∧ t < 65536) (hc : cellOf code a = some t) (hd : cellOf code t = none) :
    Calls Tryd.prog 52 #[.slice A code.length c, .int .u16 a] w fun e w' => e = .returned (.tuple #[FI.zero.val, .int .i64 161]) ∧ Below w.heap.size w w' := by
  have EH := Lib.hid E
  obtain ⟨t0, t1⟩ := hb
  clear E
  go_enter Tryd.func52, Tryd.ntmps52
  go_wp2_with ((go_at_call 51; refine (EH.out.cell _ _ (by repeat (first | exact Below.refl _ _ | apply b_alloc | apply b_drewN | (refine below_set1 ?_ (by simp; done) _ _))) (by first | assumption | exact (wrap16_range _).1) (by first | assumption | exact (wrap16_range _).2)).mono ?_; rintro e W ⟨rfl, k, rfl⟩))
  all_goals first
    | (refine tail_rw ?hz ?hb ?k
       case hz => repeat (first | exact ZeroAt.start _ | exact HZ.out | apply ZeroAt.alloc | apply ZeroAt.drewN | (refine ZeroAt.set ?_ (by simp; done) _))
       case hb => repeat (first | exact Below.refl _ _ | exact HW.out | apply b_alloc | apply b_drewN | (refine below_set1 ?_ (by simp; done) _ _))
       case k =>
         intro V hb hB
         obtain ⟨⟨g0, g1, g2, g3, g4⟩, _⟩ := cells5 hb
         clear hb
         refine bodyPost_ret (v := .tuple #[.agg #[.int .u16 (0), .int .i64 (0), .int .u16 (0), .int .u16 (0), .int .u16 (0)], .int .i64 161]) (by simp [results, Tryd.results52, go_sem, g0, g1, g2, g3, g4]) rfl ⟨rfl, hB⟩)
    | (exfalso; omega)

set_option maxRecDepth 100000 in
set_option maxHeartbeats 4000000 in
theorem instr_bad (w : World) (A : Option Addr) (c : Nat) (code : List Int) (a : Int) (t o : Int) (E : InstrEnv w A c code) (h0 : 0 ≤ a) (h1 : a < 65536) (hb : 0 ≤ t ∧ t < 65536) (hc : cellOf code a = some t) (hd : cellOf code t = some o) (hr : o < 1 ∨ 64 ≤ o) :
    Calls Tryd.prog 52 #[.slice A code.length c, .int .u16 a] w fun e w' => e = .returned (.tuple #[FI.zero.val, .int .i64 161]) ∧ Below w.heap.size w w' := by
  have EH := Lib.hid E
  obtain ⟨t0, t1⟩ := hb
  clear E
  go_enter Tryd.func52, Tryd.ntmps52
  go_wp2_with ((go_at_call 51; refine (EH.out.cell _ _ (by repeat (first | exact Below.refl _ _ | apply b_alloc | apply b_drewN | (refine below_set1 ?_ (by simp; done) _ _))) (by first | assumption | exact (wrap16_range _).1) (by first | assumption | exact (wrap16_range _).2)).mono ?_; rintro e W ⟨rfl, k, rfl⟩))
  all_goals first
    | (refine tail_rw ?hz ?hb ?k
       case hz => repeat (first | exact ZeroAt.start _ | exact HZ.out | apply ZeroAt.alloc | apply ZeroAt.drewN | (refine ZeroAt.set ?_ (by simp; done) _))
       case hb => repeat (first | exact Below.refl _ _ | exact HW.out | apply b_alloc | apply b_drewN | (refine below_set1 ?_ (by simp; done) _ _))
       case k =>
         intro V hb hB
         obtain ⟨⟨g0, g1, g2, g3, g4⟩, _⟩ := cells5 hb
         clear hb
         refine bodyPost_ret (v := .tuple #[.agg #[.int .u16 (0), .int .i64 (0), .int .u16 (0), .int .u16 (0), .int .u16 (0)], .int .i64 161]) (by simp [results, Tryd.results52, go_sem, g0, g1, g2, g3, g4]) rfl ⟨rfl, hB⟩)
    | (exfalso; omega)

set_option maxRecDepth 100000 in
set_option maxHeartbeats 4000000 in
theorem instr_enter (w : World) (A : Option Addr) (c : Nat) (code : List Int) (a : Int) (t : Int) (E : InstrEnv w A c code) (h0 : 0 ≤ a) (h1 : a < 65536) (hb : 0 ≤ t ∧ t < 65536) (hc : cellOf code a = some t) (hd : cellOf code t = some 1) :
    Calls Tryd.prog 52 #[.slice A code.length c, .int .u16 a] w fun e w' => e = .returned (.tuple #[(⟨a, 1, 0, t, IntKind.u16.wrap (a + 2)⟩ : FI).val, .int .i64 0]) ∧ Below w.heap.size w w' := by
  have EH := Lib.hid E
  obtain ⟨t0, t1⟩ := hb
  clear E
  go_enter Tryd.func52, Tryd.ntmps52
  go_wp2_with ((go_at_call 51; refine (EH.out.cell _ _ (by repeat (first | exact Below.refl _ _ | apply b_alloc | apply b_drewN | (refine below_set1 ?_ (by simp; done) _ _))) (by first | assumption | exact (wrap16_range _).1) (by first | assumption | exact (wrap16_range _).2)).mono ?_; rintro e W ⟨rfl, k, rfl⟩))
  all_goals first
    | (refine tail_rw2 ?hz ?hb ?k
       case hz => repeat (first | exact ZeroAt.start _ | exact HZ.out | apply ZeroAt.alloc | apply ZeroAt.drewN | (refine ZeroAt.set ?_ (by simp; done) _))
       case hb => repeat (first | exact Below.refl _ _ | exact HW.out | apply b_alloc | apply b_drewN | (refine below_set1 ?_ (by simp; done) _ _))
       case k =>
         intro V hb hB
         obtain ⟨⟨g0, g1, g2, g3, g4⟩, _⟩ := cells5 hb
         clear hb
         refine bodyPost_ret (v := .tuple #[.agg #[.int .u16 (a), .int .i64 (1), .int .u16 (0), .int .u16 (t), .int .u16 (IntKind.u16.wrap (a + 2))], .int .i64 0]) (by simp [results, Tryd.results52, go_sem, g0, g1, g2, g3, g4]) rfl ⟨rfl, hB⟩)
    | (exfalso; omega)

set_option maxRecDepth 100000 in
set_option maxHeartbeats 4000000 in
theorem instr_const (w : World) (A : Option Addr) (c : Nat) (code : List Int) (a : Int) (t v : Int) (E : InstrEnv w A c code) (h0 : 0 ≤ a) (h1 : a < 65536) (hb : 0 ≤ t ∧ t < 65536) (hc : cellOf code a = some t) (hd : cellOf code t = some 2) (hv : cellOf code (IntKind.u16.wrap (t + 2)) = some v) :
    Calls Tryd.prog 52 #[.slice A code.length c, .int .u16 a] w fun e w' => e = .returned (.tuple #[(⟨a, 2, v, t, IntKind.u16.wrap (a + 2)⟩ : FI).val, .int .i64 0]) ∧ Below w.heap.size w w' := by
  have EH := Lib.hid E
  obtain ⟨t0, t1⟩ := hb
  clear E
  go_enter Tryd.func52, Tryd.ntmps52
  go_wp2_with ((go_at_call 51; refine (EH.out.cell _ _ (by repeat (first | exact Below.refl _ _ | apply b_alloc | apply b_drewN | (refine below_set1 ?_ (by simp; done) _ _))) (by first | assumption | exact (wrap16_range _).1) (by first | assumption | exact (wrap16_range _).2)).mono ?_; rintro e W ⟨rfl, k, rfl⟩))
  all_goals first
    | (refine tail_rw ?hz ?hb ?k
       case hz => repeat (first | exact ZeroAt.start _ | exact HZ.out | apply ZeroAt.alloc | apply ZeroAt.drewN | (refine ZeroAt.set ?_ (by simp; done) _))
       case hb => repeat (first | exact Below.refl _ _ | exact HW.out | apply b_alloc | apply b_drewN | (refine below_set1 ?_ (by simp; done) _ _))
       case k =>
         intro V hb hB
         obtain ⟨⟨g0, g1, g2, g3, g4⟩, _⟩ := cells5 hb
         clear hb
         refine bodyPost_ret (v := .tuple #[.agg #[.int .u16 (a), .int .i64 (2), .int .u16 (v), .int .u16 (t), .int .u16 (IntKind.u16.wrap (a + 2))], .int .i64 0]) (by simp [results, Tryd.results52, go_sem, g0, g1, g2, g3, g4]) rfl ⟨rfl, hB⟩)
    | (exfalso; omega)

set_option maxRecDepth 100000 in
set_option maxHeartbeats 4000000 in
theorem instr_const0 (w : World) (A : Option Addr) (c : Nat) (code : List Int) (a : Int) (t : Int) (E : InstrEnv w A c code) (h0 : 0 ≤ a) (h1 : a < 65536) (hb : 0 ≤ t ∧ t < 65536) (hc : cellOf code a = some t) (hd : cellOf code t = some 2) (hv : cellOf code (IntKind.u16.wrap (t + 2)) = none) :
    Calls Tryd.prog 52 #[.slice A code.length c, .int .u16 a] w fun e w' => e = .returned (.tuple #[FI.zero.val, .int .i64 162]) ∧ Below w.heap.size w w' := by
  have EH := Lib.hid E
  obtain ⟨t0, t1⟩ := hb
  clear E
  go_enter Tryd.func52, Tryd.ntmps52
  go_wp2_with ((go_at_call 51; refine (EH.out.cell _ _ (by repeat (first | exact Below.refl _ _ | apply b_alloc | apply b_drewN | (refine below_set1 ?_ (by simp; done) _ _))) (by first | assumption | exact (wrap16_range _).1) (by first | assumption | exact (wrap16_range _).2)).mono ?_; rintro e W ⟨rfl, k, rfl⟩))
  all_goals first
    | (refine tail_rw ?hz ?hb ?k
       case hz => repeat (first | exact ZeroAt.start _ | exact HZ.out | apply ZeroAt.alloc | apply ZeroAt.drewN | (refine ZeroAt.set ?_ (by simp; done) _))
       case hb => repeat (first | exact Below.refl _ _ | exact HW.out | apply b_alloc | apply b_drewN | (refine below_set1 ?_ (by simp; done) _ _))
       case k =>
         intro V hb hB
         obtain ⟨⟨g0, g1, g2, g3, g4⟩, _⟩ := cells5 hb
         clear hb
         refine bodyPost_ret (v := .tuple #[.agg #[.int .u16 (0), .int .i64 (0), .int .u16 (0), .int .u16 (0), .int .u16 (0)], .int .i64 162]) (by simp [results, Tryd.results52, go_sem, g0, g1, g2, g3, g4]) rfl ⟨rfl, hB⟩)
    | (exfalso; omega)

end Go.Proofs.YtabeljpnmmfpgaaDoor

namespace Go.Proofs.YtabeljpnmmfpgaaDoor
open Go.RowKit Go.MapKept
set_option linter.unusedVariables false
set_option linter.unusedSimpArgs false

theorem zeroRaw {w W : World} (h : ZeroAt w W) : W.heap[w.heap.size]? = some (.cells #[.int .u16 0, .int .i64 0, .int .u16 0, .int .u16 0, .int .u16 0] 60 (0, 0)) := h
theorem operFacts {w W : World} {k : Nat} {v0 v1 v2 v3 v4 : Value} (hW : Below (World.alloc (World.drewN (World.alloc w (.cells #[.int .u16 0, .int .i64 0, .int .u16 0, .int .u16 0, .int .u16 0] 60)) k) (.cells #[v0, v1, v2, v3, v4] 60)).heap.size
    (World.alloc (World.drewN (World.alloc w (.cells #[.int .u16 0, .int .i64 0, .int .u16 0, .int .u16 0, .int .u16 0] 60)) k) (.cells #[v0, v1, v2, v3, v4] 60)) W) :
    ZeroAt w W ∧ Below w.heap.size w W ∧ W.heap[w.heap.size + 1]? = some (.cells #[v0, v1, v2, v3, v4] 60 (0, 0)) := by
  refine ⟨((((ZeroAt.start w).drewN k).alloc _).below hW), b_then (b_alloc (b_drewN (b_alloc (Below.refl _ _) _) k) _) hW, ?_⟩
  have h := heap_alloc_at (World.drewN (World.alloc w (.cells #[.int .u16 0, .int .i64 0, .int .u16 0, .int .u16 0, .int .u16 0] 60)) k) (.cells #[v0, v1, v2, v3, v4] 60)
  have e : (World.drewN (World.alloc w (.cells #[.int .u16 0, .int .i64 0, .int .u16 0, .int .u16 0, .int .u16 0] 60)) k).heap.size = w.heap.size + 1 := by simp
  rw [e] at h
  exact (hW.block _ (heap_lt h)).trans h

set_option maxRecDepth 100000 in
set_option maxHeartbeats 4000000 in
theorem instr_plain (w : World) (A : Option Addr) (c : Nat) (code : List Int) (a : Int) (t o : Int) (E : InstrEnv w A c code) (h0 : 0 ≤ a) (h1 : a < 65536) (hb : 0 ≤ t ∧ t < 65536) (hc : cellOf code a = some t) (hd : cellOf code t = some o) (o0 : 1 ≤ o) (o1 : o < 64) (n1 : o ≠ 1) (n2 : o ≠ 2) (n4 : o ≠ 4) (n5 : o ≠ 5) (n7 : o ≠ 7) (ho : hasOperand o = false) :
    Calls Tryd.prog 52 #[.slice A code.length c, .int .u16 a] w fun e w' => e = .returned (.tuple #[(⟨a, o, 0, 0, IntKind.u16.wrap (a + 2)⟩ : FI).val, .int .i64 0]) ∧ Below w.heap.size w w' := by
  have EH := Lib.hid E
  obtain ⟨t0, t1⟩ := hb
  have m1 : (o == 1) = false := by simp [n1]
  have m2 : (o == 2) = false := by simp [n2]
  have m4 : (o == 4) = false := by simp [n4]
  have m5 : (o == 5) = false := by simp [n5]
  have m7 : (o == 7) = false := by simp [n7]
  clear n1 n2 n4 n5 n7
  clear E
  go_enter Tryd.func52, Tryd.ntmps52
  go_wp2_with (first
    | (go_at_call 51; refine (EH.out.cell _ _ (by repeat (first | exact Below.refl _ _ | exact HW.out | apply b_alloc | apply b_drewN | (refine below_set1 ?_ (by simp; done) _ _))) (by first | assumption | exact (wrap16_range _).1) (by first | assumption | exact (wrap16_range _).2)).mono ?_; rintro e W ⟨rfl, k, rfl⟩)
    | (go_at_call 56; refine (EH.out.oper _ _ (by repeat (first | exact Below.refl _ _ | apply b_alloc | apply b_drewN | (refine below_set1 ?_ (by simp; done) _ _))) (by omega) (by omega)).mono ?_; rintro e W ⟨rfl, hW⟩; obtain ⟨hz, hw, hx⟩ := operFacts hW; have HZ := Lib.hid hz; have HW := Lib.hid hw; obtain ⟨⟨x0, x1, x2, x3, x4⟩, y0, y1, y2, y3, y4⟩ := cells5 hx; obtain ⟨⟨u0, u1, u2, u3, u4⟩, q0, q1, q2, q3, q4⟩ := cells5 (zeroRaw hz); clear hz hw hx hW))
  all_goals first
    | (refine tail_rw ?hz ?hb ?k
       case hz => repeat (first | exact ZeroAt.start _ | exact HZ.out | apply ZeroAt.alloc | apply ZeroAt.drewN | (refine ZeroAt.set ?_ (by simp; done) _))
       case hb => repeat (first | exact Below.refl _ _ | exact HW.out | apply b_alloc | apply b_drewN | (refine below_set1 ?_ (by simp; done) _ _))
       case k =>
         intro V hb hB
         obtain ⟨⟨g0, g1, g2, g3, g4⟩, _⟩ := cells5 hb
         clear hb
         refine bodyPost_ret (v := .tuple #[.agg #[.int .u16 (a), .int .i64 (o), .int .u16 (0), .int .u16 (0), .int .u16 (IntKind.u16.wrap (a + 2))], .int .i64 0]) (by simp [results, Tryd.results52, go_sem, g0, g1, g2, g3, g4]) rfl ⟨rfl, hB⟩)
    | (exfalso; omega)

set_option maxRecDepth 100000 in
set_option maxHeartbeats 4000000 in
theorem instr_gone3 (w : World) (A : Option Addr) (c : Nat) (code : List Int) (a : Int) (t : Int) (E : InstrEnv w A c code) (h0 : 0 ≤ a) (h1 : a < 65536) (hb : 0 ≤ t ∧ t < 65536) (hc : cellOf code a = some t) (hd : cellOf code t = some 3) (hv : cellOf code (IntKind.u16.wrap (a + 2)) = none) :
    Calls Tryd.prog 52 #[.slice A code.length c, .int .u16 a] w fun e w' => e = .returned (.tuple #[FI.zero.val, .int .i64 162]) ∧ Below w.heap.size w w' := by
  have EH := Lib.hid E
  obtain ⟨t0, t1⟩ := hb
  have ho : hasOperand 3 = true := rfl
  clear E
  go_enter Tryd.func52, Tryd.ntmps52
  go_wp2_with (first
    | (go_at_call 51; refine (EH.out.cell _ _ (by repeat (first | exact Below.refl _ _ | exact HW.out | apply b_alloc | apply b_drewN | (refine below_set1 ?_ (by simp; done) _ _))) (by first | assumption | exact (wrap16_range _).1) (by first | assumption | exact (wrap16_range _).2)).mono ?_; rintro e W ⟨rfl, k, rfl⟩)
    | (go_at_call 56; refine (EH.out.oper _ _ (by repeat (first | exact Below.refl _ _ | apply b_alloc | apply b_drewN | (refine below_set1 ?_ (by simp; done) _ _))) (by omega) (by omega)).mono ?_; rintro e W ⟨rfl, hW⟩; obtain ⟨hz, hw, hx⟩ := operFacts hW; have HZ := Lib.hid hz; have HW := Lib.hid hw; obtain ⟨⟨x0, x1, x2, x3, x4⟩, y0, y1, y2, y3, y4⟩ := cells5 hx; obtain ⟨⟨u0, u1, u2, u3, u4⟩, q0, q1, q2, q3, q4⟩ := cells5 (zeroRaw hz); clear hz hw hx hW))
  all_goals first
    | (refine tail_rw ?hz ?hb ?k
       case hz => repeat (first | exact ZeroAt.start _ | exact HZ.out | apply ZeroAt.alloc | apply ZeroAt.drewN | (refine ZeroAt.set ?_ (by simp; done) _))
       case hb => repeat (first | exact Below.refl _ _ | exact HW.out | apply b_alloc | apply b_drewN | (refine below_set1 ?_ (by simp; done) _ _))
       case k =>
         intro V hb hB
         obtain ⟨⟨g0, g1, g2, g3, g4⟩, _⟩ := cells5 hb
         clear hb
         refine bodyPost_ret (v := .tuple #[.agg #[.int .u16 (0), .int .i64 (0), .int .u16 (0), .int .u16 (0), .int .u16 (0)], .int .i64 162]) (by simp [results, Tryd.results52, go_sem, g0, g1, g2, g3, g4]) rfl ⟨rfl, hB⟩)
    | (exfalso; omega)

set_option maxRecDepth 100000 in
set_option maxHeartbeats 4000000 in
theorem instr_lit (w : World) (A : Option Addr) (c : Nat) (code : List Int) (a : Int) (t v : Int) (E : InstrEnv w A c code) (h0 : 0 ≤ a) (h1 : a < 65536) (hb : 0 ≤ t ∧ t < 65536) (hc : cellOf code a = some t) (hd : cellOf code t = some 3) (hv : cellOf code (IntKind.u16.wrap (a + 2)) = some v) :
    Calls Tryd.prog 52 #[.slice A code.length c, .int .u16 a] w fun e w' => e = .returned (.tuple #[(⟨a, 3, v, 0, IntKind.u16.wrap (a + 4)⟩ : FI).val, .int .i64 0]) ∧ Below w.heap.size w w' := by
  have EH := Lib.hid E
  obtain ⟨t0, t1⟩ := hb
  have ho : hasOperand 3 = true := rfl
  clear E
  go_enter Tryd.func52, Tryd.ntmps52
  go_wp2_with (first
    | (go_at_call 51; refine (EH.out.cell _ _ (by repeat (first | exact Below.refl _ _ | exact HW.out | apply b_alloc | apply b_drewN | (refine below_set1 ?_ (by simp; done) _ _))) (by first | assumption | exact (wrap16_range _).1) (by first | assumption | exact (wrap16_range _).2)).mono ?_; rintro e W ⟨rfl, k, rfl⟩)
    | (go_at_call 56; refine (EH.out.oper _ _ (by repeat (first | exact Below.refl _ _ | apply b_alloc | apply b_drewN | (refine below_set1 ?_ (by simp; done) _ _))) (by omega) (by omega)).mono ?_; rintro e W ⟨rfl, hW⟩; obtain ⟨hz, hw, hx⟩ := operFacts hW; have HZ := Lib.hid hz; have HW := Lib.hid hw; obtain ⟨⟨x0, x1, x2, x3, x4⟩, y0, y1, y2, y3, y4⟩ := cells5 hx; obtain ⟨⟨u0, u1, u2, u3, u4⟩, q0, q1, q2, q3, q4⟩ := cells5 (zeroRaw hz); clear hz hw hx hW))
  all_goals first
    | (refine tail_rw ?hz ?hb ?k
       case hz => repeat (first | exact ZeroAt.start _ | exact HZ.out | apply ZeroAt.alloc | apply ZeroAt.drewN | (refine ZeroAt.set ?_ (by simp; done) _))
       case hb => repeat (first | exact Below.refl _ _ | exact HW.out | apply b_alloc | apply b_drewN | (refine below_set1 ?_ (by simp; done) _ _))
       case k =>
         intro V hb hB
         obtain ⟨⟨g0, g1, g2, g3, g4⟩, _⟩ := cells5 hb
         clear hb
         refine bodyPost_ret (v := .tuple #[.agg #[.int .u16 (a), .int .i64 (3), .int .u16 (v), .int .u16 (0), .int .u16 (IntKind.u16.wrap (a + 4))], .int .i64 0]) (by simp [results, Tryd.results52, go_sem, g0, g1, g2, g3, g4]) rfl ⟨rfl, hB⟩)
    | (exfalso; omega)

set_option maxRecDepth 100000 in
set_option maxHeartbeats 4000000 in
theorem instr_gone4 (w : World) (A : Option Addr) (c : Nat) (code : List Int) (a : Int) (t : Int) (E : InstrEnv w A c code) (h0 : 0 ≤ a) (h1 : a < 65536) (hb : 0 ≤ t ∧ t < 65536) (hc : cellOf code a = some t) (hd : cellOf code t = some 4) (hv : cellOf code (IntKind.u16.wrap (a + 2)) = none) :
    Calls Tryd.prog 52 #[.slice A code.length c, .int .u16 a] w fun e w' => e = .returned (.tuple #[FI.zero.val, .int .i64 162]) ∧ Below w.heap.size w w' := by
  have EH := Lib.hid E
  obtain ⟨t0, t1⟩ := hb
  have ho : hasOperand 4 = true := rfl
  clear E
  go_enter Tryd.func52, Tryd.ntmps52
  go_wp2_with (first
    | (go_at_call 51; refine (EH.out.cell _ _ (by repeat (first | exact Below.refl _ _ | exact HW.out | apply b_alloc | apply b_drewN | (refine below_set1 ?_ (by simp; done) _ _))) (by first | assumption | exact (wrap16_range _).1) (by first | assumption | exact (wrap16_range _).2)).mono ?_; rintro e W ⟨rfl, k, rfl⟩)
    | (go_at_call 56; refine (EH.out.oper _ _ (by repeat (first | exact Below.refl _ _ | apply b_alloc | apply b_drewN | (refine below_set1 ?_ (by simp; done) _ _))) (by omega) (by omega)).mono ?_; rintro e W ⟨rfl, hW⟩; obtain ⟨hz, hw, hx⟩ := operFacts hW; have HZ := Lib.hid hz; have HW := Lib.hid hw; obtain ⟨⟨x0, x1, x2, x3, x4⟩, y0, y1, y2, y3, y4⟩ := cells5 hx; obtain ⟨⟨u0, u1, u2, u3, u4⟩, q0, q1, q2, q3, q4⟩ := cells5 (zeroRaw hz); clear hz hw hx hW))
  all_goals first
    | (refine tail_rw ?hz ?hb ?k
       case hz => repeat (first | exact ZeroAt.start _ | exact HZ.out | apply ZeroAt.alloc | apply ZeroAt.drewN | (refine ZeroAt.set ?_ (by simp; done) _))
       case hb => repeat (first | exact Below.refl _ _ | exact HW.out | apply b_alloc | apply b_drewN | (refine below_set1 ?_ (by simp; done) _ _))
       case k =>
         intro V hb hB
         obtain ⟨⟨g0, g1, g2, g3, g4⟩, _⟩ := cells5 hb
         clear hb
         refine bodyPost_ret (v := .tuple #[.agg #[.int .u16 (0), .int .i64 (0), .int .u16 (0), .int .u16 (0), .int .u16 (0)], .int .i64 162]) (by simp [results, Tryd.results52, go_sem, g0, g1, g2, g3, g4]) rfl ⟨rfl, hB⟩)
    | (exfalso; omega)

set_option maxRecDepth 100000 in
set_option maxHeartbeats 4000000 in
theorem instr_way4 (w : World) (A : Option Addr) (c : Nat) (code : List Int) (a : Int) (t v u : Int) (E : InstrEnv w A c code) (h0 : 0 ≤ a) (h1 : a < 65536) (bv : 0 ≤ v ∧ v < 65536) (hb : 0 ≤ t ∧ t < 65536) (hc : cellOf code a = some t) (hd : cellOf code t = some 4) (hv : cellOf code (IntKind.u16.wrap (a + 2)) = some v) (hu : cellOf code v = some u) :
    Calls Tryd.prog 52 #[.slice A code.length c, .int .u16 a] w fun e w' => e = .returned (.tuple #[(⟨a, 4, v, 0, IntKind.u16.wrap (a + 4)⟩ : FI).val, .int .i64 0]) ∧ Below w.heap.size w w' := by
  have EH := Lib.hid E
  obtain ⟨t0, t1⟩ := hb
  obtain ⟨v0, v1⟩ := bv
  have ho : hasOperand 4 = true := rfl
  clear E
  go_enter Tryd.func52, Tryd.ntmps52
  go_wp2_with (first
    | (go_at_call 51; refine (EH.out.cell _ _ (by repeat (first | exact Below.refl _ _ | exact HW.out | apply b_alloc | apply b_drewN | (refine below_set1 ?_ (by simp; done) _ _))) (by first | assumption | exact (wrap16_range _).1) (by first | assumption | exact (wrap16_range _).2)).mono ?_; rintro e W ⟨rfl, k, rfl⟩)
    | (go_at_call 56; refine (EH.out.oper _ _ (by repeat (first | exact Below.refl _ _ | apply b_alloc | apply b_drewN | (refine below_set1 ?_ (by simp; done) _ _))) (by omega) (by omega)).mono ?_; rintro e W ⟨rfl, hW⟩; obtain ⟨hz, hw, hx⟩ := operFacts hW; have HZ := Lib.hid hz; have HW := Lib.hid hw; obtain ⟨⟨x0, x1, x2, x3, x4⟩, y0, y1, y2, y3, y4⟩ := cells5 hx; obtain ⟨⟨u0, u1, u2, u3, u4⟩, q0, q1, q2, q3, q4⟩ := cells5 (zeroRaw hz); clear hz hw hx hW))
  all_goals first
    | (refine tail_rw ?hz ?hb ?k
       case hz => repeat (first | exact ZeroAt.start _ | exact HZ.out | apply ZeroAt.alloc | apply ZeroAt.drewN | (refine ZeroAt.set ?_ (by simp; done) _))
       case hb => repeat (first | exact Below.refl _ _ | exact HW.out | apply b_alloc | apply b_drewN | (refine below_set1 ?_ (by simp; done) _ _))
       case k =>
         intro V hb hB
         obtain ⟨⟨g0, g1, g2, g3, g4⟩, _⟩ := cells5 hb
         clear hb
         refine bodyPost_ret (v := .tuple #[.agg #[.int .u16 (a), .int .i64 (4), .int .u16 (v), .int .u16 (0), .int .u16 (IntKind.u16.wrap (a + 4))], .int .i64 0]) (by simp [results, Tryd.results52, go_sem, g0, g1, g2, g3, g4]) rfl ⟨rfl, hB⟩)
    | (exfalso; omega)

set_option maxRecDepth 100000 in
set_option maxHeartbeats 4000000 in
theorem instr_miss4 (w : World) (A : Option Addr) (c : Nat) (code : List Int) (a : Int) (t v : Int) (E : InstrEnv w A c code) (h0 : 0 ≤ a) (h1 : a < 65536) (bv : 0 ≤ v ∧ v < 65536) (hb : 0 ≤ t ∧ t < 65536) (hc : cellOf code a = some t) (hd : cellOf code t = some 4) (hv : cellOf code (IntKind.u16.wrap (a + 2)) = some v) (hu : cellOf code v = none) :
    Calls Tryd.prog 52 #[.slice A code.length c, .int .u16 a] w fun e w' => e = .returned (.tuple #[FI.zero.val, .int .i64 160]) ∧ Below w.heap.size w w' := by
  have EH := Lib.hid E
  obtain ⟨t0, t1⟩ := hb
  obtain ⟨v0, v1⟩ := bv
  have ho : hasOperand 4 = true := rfl
  clear E
  go_enter Tryd.func52, Tryd.ntmps52
  go_wp2_with (first
    | (go_at_call 51; refine (EH.out.cell _ _ (by repeat (first | exact Below.refl _ _ | exact HW.out | apply b_alloc | apply b_drewN | (refine below_set1 ?_ (by simp; done) _ _))) (by first | assumption | exact (wrap16_range _).1) (by first | assumption | exact (wrap16_range _).2)).mono ?_; rintro e W ⟨rfl, k, rfl⟩)
    | (go_at_call 56; refine (EH.out.oper _ _ (by repeat (first | exact Below.refl _ _ | apply b_alloc | apply b_drewN | (refine below_set1 ?_ (by simp; done) _ _))) (by omega) (by omega)).mono ?_; rintro e W ⟨rfl, hW⟩; obtain ⟨hz, hw, hx⟩ := operFacts hW; have HZ := Lib.hid hz; have HW := Lib.hid hw; obtain ⟨⟨x0, x1, x2, x3, x4⟩, y0, y1, y2, y3, y4⟩ := cells5 hx; obtain ⟨⟨u0, u1, u2, u3, u4⟩, q0, q1, q2, q3, q4⟩ := cells5 (zeroRaw hz); clear hz hw hx hW))
  all_goals first
    | (refine tail_rw ?hz ?hb ?k
       case hz => repeat (first | exact ZeroAt.start _ | exact HZ.out | apply ZeroAt.alloc | apply ZeroAt.drewN | (refine ZeroAt.set ?_ (by simp; done) _))
       case hb => repeat (first | exact Below.refl _ _ | exact HW.out | apply b_alloc | apply b_drewN | (refine below_set1 ?_ (by simp; done) _ _))
       case k =>
         intro V hb hB
         obtain ⟨⟨g0, g1, g2, g3, g4⟩, _⟩ := cells5 hb
         clear hb
         refine bodyPost_ret (v := .tuple #[.agg #[.int .u16 (0), .int .i64 (0), .int .u16 (0), .int .u16 (0), .int .u16 (0)], .int .i64 160]) (by simp [results, Tryd.results52, go_sem, g0, g1, g2, g3, g4]) rfl ⟨rfl, hB⟩)
    | (exfalso; omega)

set_option maxRecDepth 100000 in
set_option maxHeartbeats 4000000 in
theorem instr_gone5 (w : World) (A : Option Addr) (c : Nat) (code : List Int) (a : Int) (t : Int) (E : InstrEnv w A c code) (h0 : 0 ≤ a) (h1 : a < 65536) (hb : 0 ≤ t ∧ t < 65536) (hc : cellOf code a = some t) (hd : cellOf code t = some 5) (hv : cellOf code (IntKind.u16.wrap (a + 2)) = none) :
    Calls Tryd.prog 52 #[.slice A code.length c, .int .u16 a] w fun e w' => e = .returned (.tuple #[FI.zero.val, .int .i64 162]) ∧ Below w.heap.size w w' := by
  have EH := Lib.hid E
  obtain ⟨t0, t1⟩ := hb
  have ho : hasOperand 5 = true := rfl
  clear E
  go_enter Tryd.func52, Tryd.ntmps52
  go_wp2_with (first
    | (go_at_call 51; refine (EH.out.cell _ _ (by repeat (first | exact Below.refl _ _ | exact HW.out | apply b_alloc | apply b_drewN | (refine below_set1 ?_ (by simp; done) _ _))) (by first | assumption | exact (wrap16_range _).1) (by first | assumption | exact (wrap16_range _).2)).mono ?_; rintro e W ⟨rfl, k, rfl⟩)
    | (go_at_call 56; refine (EH.out.oper _ _ (by repeat (first | exact Below.refl _ _ | apply b_alloc | apply b_drewN | (refine below_set1 ?_ (by simp; done) _ _))) (by omega) (by omega)).mono ?_; rintro e W ⟨rfl, hW⟩; obtain ⟨hz, hw, hx⟩ := operFacts hW; have HZ := Lib.hid hz; have HW := Lib.hid hw; obtain ⟨⟨x0, x1, x2, x3, x4⟩, y0, y1, y2, y3, y4⟩ := cells5 hx; obtain ⟨⟨u0, u1, u2, u3, u4⟩, q0, q1, q2, q3, q4⟩ := cells5 (zeroRaw hz); clear hz hw hx hW))
  all_goals first
    | (refine tail_rw ?hz ?hb ?k
       case hz => repeat (first | exact ZeroAt.start _ | exact HZ.out | apply ZeroAt.alloc | apply ZeroAt.drewN | (refine ZeroAt.set ?_ (by simp; done) _))
       case hb => repeat (first | exact Below.refl _ _ | exact HW.out | apply b_alloc | apply b_drewN | (refine below_set1 ?_ (by simp; done) _ _))
       case k =>
         intro V hb hB
         obtain ⟨⟨g0, g1, g2, g3, g4⟩, _⟩ := cells5 hb
         clear hb
         refine bodyPost_ret (v := .tuple #[.agg #[.int .u16 (0), .int .i64 (0), .int .u16 (0), .int .u16 (0), .int .u16 (0)], .int .i64 162]) (by simp [results, Tryd.results52, go_sem, g0, g1, g2, g3, g4]) rfl ⟨rfl, hB⟩)
    | (exfalso; omega)

set_option maxRecDepth 100000 in
set_option maxHeartbeats 4000000 in
theorem instr_way5 (w : World) (A : Option Addr) (c : Nat) (code : List Int) (a : Int) (t v u : Int) (E : InstrEnv w A c code) (h0 : 0 ≤ a) (h1 : a < 65536) (bv : 0 ≤ v ∧ v < 65536) (hb : 0 ≤ t ∧ t < 65536) (hc : cellOf code a = some t) (hd : cellOf code t = some 5) (hv : cellOf code (IntKind.u16.wrap (a + 2)) = some v) (hu : cellOf code v = some u) :
    Calls Tryd.prog 52 #[.slice A code.length c, .int .u16 a] w fun e w' => e = .returned (.tuple #[(⟨a, 5, v, 0, IntKind.u16.wrap (a + 4)⟩ : FI).val, .int .i64 0]) ∧ Below w.heap.size w w' := by
  have EH := Lib.hid E
  obtain ⟨t0, t1⟩ := hb
  obtain ⟨v0, v1⟩ := bv
  have ho : hasOperand 5 = true := rfl
  clear E
  go_enter Tryd.func52, Tryd.ntmps52
  go_wp2_with (first
    | (go_at_call 51; refine (EH.out.cell _ _ (by repeat (first | exact Below.refl _ _ | exact HW.out | apply b_alloc | apply b_drewN | (refine below_set1 ?_ (by simp; done) _ _))) (by first | assumption | exact (wrap16_range _).1) (by first | assumption | exact (wrap16_range _).2)).mono ?_; rintro e W ⟨rfl, k, rfl⟩)
    | (go_at_call 56; refine (EH.out.oper _ _ (by repeat (first | exact Below.refl _ _ | apply b_alloc | apply b_drewN | (refine below_set1 ?_ (by simp; done) _ _))) (by omega) (by omega)).mono ?_; rintro e W ⟨rfl, hW⟩; obtain ⟨hz, hw, hx⟩ := operFacts hW; have HZ := Lib.hid hz; have HW := Lib.hid hw; obtain ⟨⟨x0, x1, x2, x3, x4⟩, y0, y1, y2, y3, y4⟩ := cells5 hx; obtain ⟨⟨u0, u1, u2, u3, u4⟩, q0, q1, q2, q3, q4⟩ := cells5 (zeroRaw hz); clear hz hw hx hW))
  all_goals first
    | (refine tail_rw ?hz ?hb ?k
       case hz => repeat (first | exact ZeroAt.start _ | exact HZ.out | apply ZeroAt.alloc | apply ZeroAt.drewN | (refine ZeroAt.set ?_ (by simp; done) _))
       case hb => repeat (first | exact Below.refl _ _ | exact HW.out | apply b_alloc | apply b_drewN | (refine below_set1 ?_ (by simp; done) _ _))
       case k =>
         intro V hb hB
         obtain ⟨⟨g0, g1, g2, g3, g4⟩, _⟩ := cells5 hb
         clear hb
         refine bodyPost_ret (v := .tuple #[.agg #[.int .u16 (a), .int .i64 (5), .int .u16 (v), .int .u16 (0), .int .u16 (IntKind.u16.wrap (a + 4))], .int .i64 0]) (by simp [results, Tryd.results52, go_sem, g0, g1, g2, g3, g4]) rfl ⟨rfl, hB⟩)
    | (exfalso; omega)

set_option maxRecDepth 100000 in
set_option maxHeartbeats 4000000 in
theorem instr_miss5 (w : World) (A : Option Addr) (c : Nat) (code : List Int) (a : Int) (t v : Int) (E : InstrEnv w A c code) (h0 : 0 ≤ a) (h1 : a < 65536) (bv : 0 ≤ v ∧ v < 65536) (hb : 0 ≤ t ∧ t < 65536) (hc : cellOf code a = some t) (hd : cellOf code t = some 5) (hv : cellOf code (IntKind.u16.wrap (a + 2)) = some v) (hu : cellOf code v = none) :
    Calls Tryd.prog 52 #[.slice A code.length c, .int .u16 a] w fun e w' => e = .returned (.tuple #[FI.zero.val, .int .i64 160]) ∧ Below w.heap.size w w' := by
  have EH := Lib.hid E
  obtain ⟨t0, t1⟩ := hb
  obtain ⟨v0, v1⟩ := bv
  have ho : hasOperand 5 = true := rfl
  clear E
  go_enter Tryd.func52, Tryd.ntmps52
  go_wp2_with (first
    | (go_at_call 51; refine (EH.out.cell _ _ (by repeat (first | exact Below.refl _ _ | exact HW.out | apply b_alloc | apply b_drewN | (refine below_set1 ?_ (by simp; done) _ _))) (by first | assumption | exact (wrap16_range _).1) (by first | assumption | exact (wrap16_range _).2)).mono ?_; rintro e W ⟨rfl, k, rfl⟩)
    | (go_at_call 56; refine (EH.out.oper _ _ (by repeat (first | exact Below.refl _ _ | apply b_alloc | apply b_drewN | (refine below_set1 ?_ (by simp; done) _ _))) (by omega) (by omega)).mono ?_; rintro e W ⟨rfl, hW⟩; obtain ⟨hz, hw, hx⟩ := operFacts hW; have HZ := Lib.hid hz; have HW := Lib.hid hw; obtain ⟨⟨x0, x1, x2, x3, x4⟩, y0, y1, y2, y3, y4⟩ := cells5 hx; obtain ⟨⟨u0, u1, u2, u3, u4⟩, q0, q1, q2, q3, q4⟩ := cells5 (zeroRaw hz); clear hz hw hx hW))
  all_goals first
    | (refine tail_rw ?hz ?hb ?k
       case hz => repeat (first | exact ZeroAt.start _ | exact HZ.out | apply ZeroAt.alloc | apply ZeroAt.drewN | (refine ZeroAt.set ?_ (by simp; done) _))
       case hb => repeat (first | exact Below.refl _ _ | exact HW.out | apply b_alloc | apply b_drewN | (refine below_set1 ?_ (by simp; done) _ _))
       case k =>
         intro V hb hB
         obtain ⟨⟨g0, g1, g2, g3, g4⟩, _⟩ := cells5 hb
         clear hb
         refine bodyPost_ret (v := .tuple #[.agg #[.int .u16 (0), .int .i64 (0), .int .u16 (0), .int .u16 (0), .int .u16 (0)], .int .i64 160]) (by simp [results, Tryd.results52, go_sem, g0, g1, g2, g3, g4]) rfl ⟨rfl, hB⟩)
    | (exfalso; omega)

set_option maxRecDepth 100000 in
set_option maxHeartbeats 4000000 in
theorem instr_gone7 (w : World) (A : Option Addr) (c : Nat) (code : List Int) (a : Int) (t : Int) (E : InstrEnv w A c code) (h0 : 0 ≤ a) (h1 : a < 65536) (hb : 0 ≤ t ∧ t < 65536) (hc : cellOf code a = some t) (hd : cellOf code t = some 7) (hv : cellOf code (IntKind.u16.wrap (a + 2)) = none) :
    Calls Tryd.prog 52 #[.slice A code.length c, .int .u16 a] w fun e w' => e = .returned (.tuple #[FI.zero.val, .int .i64 162]) ∧ Below w.heap.size w w' := by
  have EH := Lib.hid E
  obtain ⟨t0, t1⟩ := hb
  have ho : hasOperand 7 = true := rfl
  clear E
  go_enter Tryd.func52, Tryd.ntmps52
  go_wp2_with (first
    | (go_at_call 51; refine (EH.out.cell _ _ (by repeat (first | exact Below.refl _ _ | exact HW.out | apply b_alloc | apply b_drewN | (refine below_set1 ?_ (by simp; done) _ _))) (by first | assumption | exact (wrap16_range _).1) (by first | assumption | exact (wrap16_range _).2)).mono ?_; rintro e W ⟨rfl, k, rfl⟩)
    | (go_at_call 56; refine (EH.out.oper _ _ (by repeat (first | exact Below.refl _ _ | apply b_alloc | apply b_drewN | (refine below_set1 ?_ (by simp; done) _ _))) (by omega) (by omega)).mono ?_; rintro e W ⟨rfl, hW⟩; obtain ⟨hz, hw, hx⟩ := operFacts hW; have HZ := Lib.hid hz; have HW := Lib.hid hw; obtain ⟨⟨x0, x1, x2, x3, x4⟩, y0, y1, y2, y3, y4⟩ := cells5 hx; obtain ⟨⟨u0, u1, u2, u3, u4⟩, q0, q1, q2, q3, q4⟩ := cells5 (zeroRaw hz); clear hz hw hx hW))
  all_goals first
    | (refine tail_rw ?hz ?hb ?k
       case hz => repeat (first | exact ZeroAt.start _ | exact HZ.out | apply ZeroAt.alloc | apply ZeroAt.drewN | (refine ZeroAt.set ?_ (by simp; done) _))
       case hb => repeat (first | exact Below.refl _ _ | exact HW.out | apply b_alloc | apply b_drewN | (refine below_set1 ?_ (by simp; done) _ _))
       case k =>
         intro V hb hB
         obtain ⟨⟨g0, g1, g2, g3, g4⟩, _⟩ := cells5 hb
         clear hb
         refine bodyPost_ret (v := .tuple #[.agg #[.int .u16 (0), .int .i64 (0), .int .u16 (0), .int .u16 (0), .int .u16 (0)], .int .i64 162]) (by simp [results, Tryd.results52, go_sem, g0, g1, g2, g3, g4]) rfl ⟨rfl, hB⟩)
    | (exfalso; omega)

set_option maxRecDepth 100000 in
set_option maxHeartbeats 4000000 in
theorem instr_way7 (w : World) (A : Option Addr) (c : Nat) (code : List Int) (a : Int) (t v u : Int) (E : InstrEnv w A c code) (h0 : 0 ≤ a) (h1 : a < 65536) (bv : 0 ≤ v ∧ v < 65536) (hb : 0 ≤ t ∧ t < 65536) (hc : cellOf code a = some t) (hd : cellOf code t = some 7) (hv : cellOf code (IntKind.u16.wrap (a + 2)) = some v) (hu : cellOf code v = some u) :
    Calls Tryd.prog 52 #[.slice A code.length c, .int .u16 a] w fun e w' => e = .returned (.tuple #[(⟨a, 7, v, 0, IntKind.u16.wrap (a + 4)⟩ : FI).val, .int .i64 0]) ∧ Below w.heap.size w w' := by
  have EH := Lib.hid E
  obtain ⟨t0, t1⟩ := hb
  obtain ⟨v0, v1⟩ := bv
  have ho : hasOperand 7 = true := rfl
  clear E
  go_enter Tryd.func52, Tryd.ntmps52
  go_wp2_with (first
    | (go_at_call 51; refine (EH.out.cell _ _ (by repeat (first | exact Below.refl _ _ | exact HW.out | apply b_alloc | apply b_drewN | (refine below_set1 ?_ (by simp; done) _ _))) (by first | assumption | exact (wrap16_range _).1) (by first | assumption | exact (wrap16_range _).2)).mono ?_; rintro e W ⟨rfl, k, rfl⟩)
    | (go_at_call 56; refine (EH.out.oper _ _ (by repeat (first | exact Below.refl _ _ | apply b_alloc | apply b_drewN | (refine below_set1 ?_ (by simp; done) _ _))) (by omega) (by omega)).mono ?_; rintro e W ⟨rfl, hW⟩; obtain ⟨hz, hw, hx⟩ := operFacts hW; have HZ := Lib.hid hz; have HW := Lib.hid hw; obtain ⟨⟨x0, x1, x2, x3, x4⟩, y0, y1, y2, y3, y4⟩ := cells5 hx; obtain ⟨⟨u0, u1, u2, u3, u4⟩, q0, q1, q2, q3, q4⟩ := cells5 (zeroRaw hz); clear hz hw hx hW))
  all_goals first
    | (refine tail_rw ?hz ?hb ?k
       case hz => repeat (first | exact ZeroAt.start _ | exact HZ.out | apply ZeroAt.alloc | apply ZeroAt.drewN | (refine ZeroAt.set ?_ (by simp; done) _))
       case hb => repeat (first | exact Below.refl _ _ | exact HW.out | apply b_alloc | apply b_drewN | (refine below_set1 ?_ (by simp; done) _ _))
       case k =>
         intro V hb hB
         obtain ⟨⟨g0, g1, g2, g3, g4⟩, _⟩ := cells5 hb
         clear hb
         refine bodyPost_ret (v := .tuple #[.agg #[.int .u16 (a), .int .i64 (7), .int .u16 (v), .int .u16 (0), .int .u16 (IntKind.u16.wrap (a + 4))], .int .i64 0]) (by simp [results, Tryd.results52, go_sem, g0, g1, g2, g3, g4]) rfl ⟨rfl, hB⟩)
    | (exfalso; omega)

set_option maxRecDepth 100000 in
set_option maxHeartbeats 4000000 in
theorem instr_miss7 (w : World) (A : Option Addr) (c : Nat) (code : List Int) (a : Int) (t v : Int) (E : InstrEnv w A c code) (h0 : 0 ≤ a) (h1 : a < 65536) (bv : 0 ≤ v ∧ v < 65536) (hb : 0 ≤ t ∧ t < 65536) (hc : cellOf code a = some t) (hd : cellOf code t = some 7) (hv : cellOf code (IntKind.u16.wrap (a + 2)) = some v) (hu : cellOf code v = none) :
    Calls Tryd.prog 52 #[.slice A code.length c, .int .u16 a] w fun e w' => e = .returned (.tuple #[FI.zero.val, .int .i64 160]) ∧ Below w.heap.size w w' := by
  have EH := Lib.hid E
  obtain ⟨t0, t1⟩ := hb
  obtain ⟨v0, v1⟩ := bv
  have ho : hasOperand 7 = true := rfl
  clear E
  go_enter Tryd.func52, Tryd.ntmps52
  go_wp2_with (first
    | (go_at_call 51; refine (EH.out.cell _ _ (by repeat (first | exact Below.refl _ _ | exact HW.out | apply b_alloc | apply b_drewN | (refine below_set1 ?_ (by simp; done) _ _))) (by first | assumption | exact (wrap16_range _).1) (by first | assumption | exact (wrap16_range _).2)).mono ?_; rintro e W ⟨rfl, k, rfl⟩)
    | (go_at_call 56; refine (EH.out.oper _ _ (by repeat (first | exact Below.refl _ _ | apply b_alloc | apply b_drewN | (refine below_set1 ?_ (by simp; done) _ _))) (by omega) (by omega)).mono ?_; rintro e W ⟨rfl, hW⟩; obtain ⟨hz, hw, hx⟩ := operFacts hW; have HZ := Lib.hid hz; have HW := Lib.hid hw; obtain ⟨⟨x0, x1, x2, x3, x4⟩, y0, y1, y2, y3, y4⟩ := cells5 hx; obtain ⟨⟨u0, u1, u2, u3, u4⟩, q0, q1, q2, q3, q4⟩ := cells5 (zeroRaw hz); clear hz hw hx hW))
  all_goals first
    | (refine tail_rw ?hz ?hb ?k
       case hz => repeat (first | exact ZeroAt.start _ | exact HZ.out | apply ZeroAt.alloc | apply ZeroAt.drewN | (refine ZeroAt.set ?_ (by simp; done) _))
       case hb => repeat (first | exact Below.refl _ _ | exact HW.out | apply b_alloc | apply b_drewN | (refine below_set1 ?_ (by simp; done) _ _))
       case k =>
         intro V hb hB
         obtain ⟨⟨g0, g1, g2, g3, g4⟩, _⟩ := cells5 hb
         clear hb
         refine bodyPost_ret (v := .tuple #[.agg #[.int .u16 (0), .int .i64 (0), .int .u16 (0), .int .u16 (0), .int .u16 (0)], .int .i64 160]) (by simp [results, Tryd.results52, go_sem, g0, g1, g2, g3, g4]) rfl ⟨rfl, hB⟩)
    | (exfalso; omega)

end Go.Proofs.YtabeljpnmmfpgaaDoor

namespace Go.Proofs.YtabeljpnmmfpgaaDoor
open Go.RowKit Go.MapKept
set_option linter.unusedVariables false
set_option linter.unusedSimpArgs false

theorem hasOperand_yes {o : Int} (h : hasOperand o = true) : o = 3 ∨ o = 4 ∨ o = 5 ∨ o = 7 := by
  unfold hasOperand at h
  simp at h
  omega

theorem instr_any (w : World) (A : Option Addr) (c : Nat) (code : List Int) (a : Int) (h : CodeIn w A code) (ht : Tab w) (h0 : 0 ≤ a) (h1 : a < 65536) :
    Calls Tryd.prog 52 #[.slice A code.length c, .int .u16 a] w fun e w' => e = .returned (.tuple #[(lookAt code a).1.val, .int .i64 (lookAt code a).2]) ∧ Below w.heap.size w w' := by
  have E := InstrEnv.mk' (c := c) h ht
  have hb := h.byte
  unfold lookAt
  cases hc : cellOf code a with
  | none => exact instr_fall w A c code a E h0 h1 hc
  | some t =>
    have bt := cellOf_range hb hc
    dsimp only
    cases hd : cellOf code t with
    | none => exact instr_none w A c code a t E h0 h1 bt hc hd
    | some o =>
      dsimp only
      by_cases hr : o < 1 ∨ 64 ≤ o
      · rw [if_pos hr]; exact instr_bad w A c code a t o E h0 h1 bt hc hd hr
      · rw [if_neg hr]
        by_cases n1 : o = 1
        · subst n1; rw [if_pos rfl]; exact instr_enter w A c code a t E h0 h1 bt hc hd
        · rw [if_neg n1]
          by_cases n2 : o = 2
          · subst n2
            rw [if_pos rfl]
            cases hv : cellOf code (IntKind.u16.wrap (t + 2)) with
            | none => exact instr_const0 w A c code a t E h0 h1 bt hc hd hv
            | some v => exact instr_const w A c code a t v E h0 h1 bt hc hd hv
          · rw [if_neg n2]
            cases ho : hasOperand o with
            | false =>
              rw [if_neg (by decide)]
              have n : o ≠ 4 ∧ o ≠ 5 ∧ o ≠ 7 := by
                refine ⟨?_, ?_, ?_⟩ <;> (rintro rfl; simp [hasOperand] at ho)
              exact instr_plain w A c code a t o E h0 h1 bt hc hd (by omega) (by omega) n1 n2 n.1 n.2.1 n.2.2 ho
            | true =>
              rw [if_pos rfl]
              rcases hasOperand_yes ho with rfl | rfl | rfl | rfl
              · cases hv : cellOf code (IntKind.u16.wrap (a + 2)) with
                | none => exact instr_gone3 w A c code a t E h0 h1 bt hc hd hv
                | some v =>
                  dsimp only
                  rw [if_neg (by simp)]
                  exact instr_lit w A c code a t v E h0 h1 bt hc hd hv
              · cases hv : cellOf code (IntKind.u16.wrap (a + 2)) with
                | none => exact instr_gone4 w A c code a t E h0 h1 bt hc hd hv
                | some v =>
                  have bv := cellOf_range hb hv
                  dsimp only
                  cases hu : cellOf code v with
                  | none => rw [if_pos (by simp)]; exact instr_miss4 w A c code a t v E h0 h1 bv bt hc hd hv hu
                  | some u => rw [if_neg (by simp)]; exact instr_way4 w A c code a t v u E h0 h1 bv bt hc hd hv hu
              · cases hv : cellOf code (IntKind.u16.wrap (a + 2)) with
                | none => exact instr_gone5 w A c code a t E h0 h1 bt hc hd hv
                | some v =>
                  have bv := cellOf_range hb hv
                  dsimp only
                  cases hu : cellOf code v with
                  | none => rw [if_pos (by simp)]; exact instr_miss5 w A c code a t v E h0 h1 bv bt hc hd hv hu
                  | some u => rw [if_neg (by simp)]; exact instr_way5 w A c code a t v u E h0 h1 bv bt hc hd hv hu
              · cases hv : cellOf code (IntKind.u16.wrap (a + 2)) with
                | none => exact instr_gone7 w A c code a t E h0 h1 bt hc hd hv
                | some v =>
                  have bv := cellOf_range hb hv
                  dsimp only
                  cases hu : cellOf code v with
                  | none => rw [if_pos (by simp)]; exact instr_miss7 w A c code a t v E h0 h1 bv bt hc hd hv hu
                  | some u => rw [if_neg (by simp)]; exact instr_way7 w A c code a t v u E h0 h1 bv bt hc hd hv hu
end Go.Proofs.YtabeljpnmmfpgaaDoor
