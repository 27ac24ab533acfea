/-
  The instruction at an address: the ways behind flow's operand.
-/
import Derived.Test.YtabeljpnmmfpgaaDoorFlInstr
namespace Go.Proofs.YtabeljpnmmfpgaaDoor
open Go.RowKit Go.MapKept
set_option linter.unusedVariables false
set_option linter.unusedSimpArgs false

theorem zeroRaw {w W : World} (h : ZeroAt w W) : W.heap[w.heap.size]? = some (.cells #[.int .u16 0, .int .i64 0, .int .u16 0, .int .u16 0, .int .u16 0] 60 (0, 0)) := h
theorem operFacts {w W : World} {k : Nat} {v0 v1 v2 v3 v4 : Value} (hW : Below (World.alloc (World.drewN (World.alloc w (.cells #[.int .u16 0, .int .i64 0, .int .u16 0, .int .u16 0, .int .u16 0] 60)) k) (.cells #[v0, v1, v2, v3, v4] 60)).heap.size
    (World.alloc (World.drewN (World.alloc w (.cells #[.int .u16 0, .int .i64 0, .int .u16 0, .int .u16 0, .int .u16 0] 60)) k) (.cells #[v0, v1, v2, v3, v4] 60)) W) :
    ZeroAt w W ∧ Below w.heap.size w W ∧ W.heap[w.heap.size + 1]? = some (.cells #[v0, v1, v2, v3, v4] 60 (0, 0)) := by
  refine ⟨((((ZeroAt.start w).drewN k).alloc _).below hW), b_then (b_alloc (b_drewN (b_alloc (Below.refl _ _) _) k) _) hW, ?_⟩
  have h := heap_alloc_at (World.drewN (World.alloc w (.cells #[.int .u16 0, .int .i64 0, .int .u16 0, .int .u16 0, .int .u16 0] 60)) k) (.cells #[v0, v1, v2, v3, v4] 60)
  have e : (World.drewN (World.alloc w (.cells #[.int .u16 0, .int .i64 0, .int .u16 0, .int .u16 0, .int .u16 0] 60)) k).heap.size = w.heap.size + 1 := by simp
  rw [e] at h
  exact (hW.block _ (heap_lt h)).trans h

set_option maxRecDepth 100000 in
set_option maxHeartbeats 4000000 in
theorem instr_plain (w : World) (A : Option Addr) (c : Nat) (code : List Int) (a : Int) (t o : Int) (E : InstrEnv w A c code) (h0 : 0 ≤ a) (h1 : a < 65536) (hb : 0 ≤ t ∧ t < 65536) (hc : cellOf code a = some t) (hd : cellOf code t = some o) (o0 : 1 ≤ o) (o1 : o < 64) (n1 : o ≠ 1) (n2 : o ≠ 2) (n4 : o ≠ 4) (n5 : o ≠ 5) (n7 : o ≠ 7) (ho : hasOperand o = false) :
    Calls Tryd.prog 52 #[.slice A code.length c, .int .u16 a] w fun e w' => e = .returned (.tuple #[(⟨a, o, 0, 0, IntKind.u16.wrap (a + 2)⟩ : FI).val, .int .i64 0]) ∧ Below w.heap.size w w' := by
  have EH := Lib.hid E
  obtain ⟨t0, t1⟩ := hb
  have m1 : (o == 1) = false := by simp [n1]
  have m2 : (o == 2) = false := by simp [n2]
  have m4 : (o == 4) = false := by simp [n4]
  have m5 : (o == 5) = false := by simp [n5]
  have m7 : (o == 7) = false := by simp [n7]
  clear n1 n2 n4 n5 n7
  clear E
  go_enter Tryd.func52, Tryd.ntmps52
  go_wp2_with (first
    | (go_at_call 51; refine (EH.out.cell _ _ (by repeat (first | exact Below.refl _ _ | exact HW.out | apply b_alloc | apply b_drewN | (refine below_set1 ?_ (by simp; done) _ _))) (by first | assumption | exact (wrap16_range _).1) (by first | assumption | exact (wrap16_range _).2)).mono ?_; rintro e W ⟨rfl, k, rfl⟩)
    | (go_at_call 56; refine (EH.out.oper _ _ (by repeat (first | exact Below.refl _ _ | apply b_alloc | apply b_drewN | (refine below_set1 ?_ (by simp; done) _ _))) (by omega) (by omega)).mono ?_; rintro e W ⟨rfl, hW⟩; obtain ⟨hz, hw, hx⟩ := operFacts hW; have HZ := Lib.hid hz; have HW := Lib.hid hw; obtain ⟨⟨x0, x1, x2, x3, x4⟩, y0, y1, y2, y3, y4⟩ := cells5 hx; obtain ⟨⟨u0, u1, u2, u3, u4⟩, q0, q1, q2, q3, q4⟩ := cells5 (zeroRaw hz); clear hz hw hx hW))
  all_goals first
    | (refine tail_rw ?hz ?hb ?k
       case hz => repeat (first | exact ZeroAt.start _ | exact HZ.out | apply ZeroAt.alloc | apply ZeroAt.drewN | (refine ZeroAt.set ?_ (by simp; done) _))
       case hb => repeat (first | exact Below.refl _ _ | exact HW.out | apply b_alloc | apply b_drewN | (refine below_set1 ?_ (by simp; done) _ _))
       case k =>
         intro V hb hB
         obtain ⟨⟨g0, g1, g2, g3, g4⟩, _⟩ := cells5 hb
         clear hb
         refine bodyPost_ret (v := .tuple #[.agg #[.int .u16 (a), .int .i64 (o), .int .u16 (0), .int .u16 (0), .int .u16 (IntKind.u16.wrap (a + 2))], .int .i64 0]) (by simp [results, Tryd.results52, go_sem, g0, g1, g2, g3, g4]) rfl ⟨rfl, hB⟩)
    | (exfalso; omega)

set_option maxRecDepth 100000 in
set_option maxHeartbeats 4000000 in
theorem instr_gone3 (w : World) (A : Option Addr) (c : Nat) (code : List Int) (a : Int) (t : Int) (E : InstrEnv w A c code) (h0 : 0 ≤ a) (h1 : a < 65536) (hb : 0 ≤ t ∧ t < 65536) (hc : cellOf code a = some t) (hd : cellOf code t = some 3) (hv : cellOf code (IntKind.u16.wrap (a + 2)) = none) :
    Calls Tryd.prog 52 #[.slice A code.length c, .int .u16 a] w fun e w' => e = .returned (.tuple #[FI.zero.val, .int .i64 162]) ∧ Below w.heap.size w w' := by
  have EH := Lib.hid E
  obtain ⟨t0, t1⟩ := hb
  have ho : hasOperand 3 = true := rfl
  clear E
  go_enter Tryd.func52, Tryd.ntmps52
  go_wp2_with (first
    | (go_at_call 51; refine (EH.out.cell _ _ (by repeat (first | exact Below.refl _ _ | exact HW.out | apply b_alloc | apply b_drewN | (refine below_set1 ?_ (by simp; done) _ _))) (by first | assumption | exact (wrap16_range _).1) (by first | assumption | exact (wrap16_range _).2)).mono ?_; rintro e W ⟨rfl, k, rfl⟩)
    | (go_at_call 56; refine (EH.out.oper _ _ (by repeat (first | exact Below.refl _ _ | apply b_alloc | apply b_drewN | (refine below_set1 ?_ (by simp; done) _ _))) (by omega) (by omega)).mono ?_; rintro e W ⟨rfl, hW⟩; obtain ⟨hz, hw, hx⟩ := operFacts hW; have HZ := Lib.hid hz; have HW := Lib.hid hw; obtain ⟨⟨x0, x1, x2, x3, x4⟩, y0, y1, y2, y3, y4⟩ := cells5 hx; obtain ⟨⟨u0, u1, u2, u3, u4⟩, q0, q1, q2, q3, q4⟩ := cells5 (zeroRaw hz); clear hz hw hx hW))
  all_goals first
    | (refine tail_rw ?hz ?hb ?k
       case hz => repeat (first | exact ZeroAt.start _ | exact HZ.out | apply ZeroAt.alloc | apply ZeroAt.drewN | (refine ZeroAt.set ?_ (by simp; done) _))
       case hb => repeat (first | exact Below.refl _ _ | exact HW.out | apply b_alloc | apply b_drewN | (refine below_set1 ?_ (by simp; done) _ _))
       case k =>
         intro V hb hB
         obtain ⟨⟨g0, g1, g2, g3, g4⟩, _⟩ := cells5 hb
         clear hb
         refine bodyPost_ret (v := .tuple #[.agg #[.int .u16 (0), .int .i64 (0), .int .u16 (0), .int .u16 (0), .int .u16 (0)], .int .i64 162]) (by simp [results, Tryd.results52, go_sem, g0, g1, g2, g3, g4]) rfl ⟨rfl, hB⟩)
    | (exfalso; omega)

set_option maxRecDepth 100000 in
set_option maxHeartbeats 4000000 in
theorem instr_lit (w : World) (A : Option Addr) (c : Nat) (code : List Int) (a : Int) (t v : Int) (E : InstrEnv w A c code) (h0 : 0 ≤ a) (h1 : a < 65536) (hb : 0 ≤ t ∧ t < 65536) (hc : cellOf code a = some t) (hd : cellOf code t = some 3) (hv : cellOf code (IntKind.u16.wrap (a + 2)) = some v) :
    Calls Tryd.prog 52 #[.slice A code.length c, .int .u16 a] w fun e w' => e = .returned (.tuple #[(⟨a, 3, v, 0, IntKind.u16.wrap (a + 4)⟩ : FI).val, .int .i64 0]) ∧ Below w.heap.size w w' := by
  have EH := Lib.hid E
  obtain ⟨t0, t1⟩ := hb
  have ho : hasOperand 3 = true := rfl
  clear E
  go_enter Tryd.func52, Tryd.ntmps52
  go_wp2_with (first
    | (go_at_call 51; refine (EH.out.cell _ _ (by repeat (first | exact Below.refl _ _ | exact HW.out | apply b_alloc | apply b_drewN | (refine below_set1 ?_ (by simp; done) _ _))) (by first | assumption | exact (wrap16_range _).1) (by first | assumption | exact (wrap16_range _).2)).mono ?_; rintro e W ⟨rfl, k, rfl⟩)
    | (go_at_call 56; refine (EH.out.oper _ _ (by repeat (first | exact Below.refl _ _ | apply b_alloc | apply b_drewN | (refine below_set1 ?_ (by simp; done) _ _))) (by omega) (by omega)).mono ?_; rintro e W ⟨rfl, hW⟩; obtain ⟨hz, hw, hx⟩ := operFacts hW; have HZ := Lib.hid hz; have HW := Lib.hid hw; obtain ⟨⟨x0, x1, x2, x3, x4⟩, y0, y1, y2, y3, y4⟩ := cells5 hx; obtain ⟨⟨u0, u1, u2, u3, u4⟩, q0, q1, q2, q3, q4⟩ := cells5 (zeroRaw hz); clear hz hw hx hW))
  all_goals first
    | (refine tail_rw ?hz ?hb ?k
       case hz => repeat (first | exact ZeroAt.start _ | exact HZ.out | apply ZeroAt.alloc | apply ZeroAt.drewN | (refine ZeroAt.set ?_ (by simp; done) _))
       case hb => repeat (first | exact Below.refl _ _ | exact HW.out | apply b_alloc | apply b_drewN | (refine below_set1 ?_ (by simp; done) _ _))
       case k =>
         intro V hb hB
         obtain ⟨⟨g0, g1, g2, g3, g4⟩, _⟩ := cells5 hb
         clear hb
         refine bodyPost_ret (v := .tuple #[.agg #[.int .u16 (a), .int .i64 (3), .int .u16 (v), .int .u16 (0), .int .u16 (IntKind.u16.wrap (a + 4))], .int .i64 0]) (by simp [results, Tryd.results52, go_sem, g0, g1, g2, g3, g4]) rfl ⟨rfl, hB⟩)
    | (exfalso; omega)

set_option maxRecDepth 100000 in
set_option maxHeartbeats 4000000 in
theorem instr_gone4 (w : World) (A : Option Addr) (c : Nat) (code : List Int) (a : Int) (t : Int) (E : InstrEnv w A c code) (h0 : 0 ≤ a) (h1 : a < 65536) (hb : 0 ≤ t ∧ t < 65536) (hc : cellOf code a = some t) (hd : cellOf code t = some 4) (hv : cellOf code (IntKind.u16.wrap (a + 2)) = none) :
    Calls Tryd.prog 52 #[.slice A code.length c, .int .u16 a] w fun e w' => e = .returned (.tuple #[FI.zero.val, .int .i64 162]) ∧ Below w.heap.size w w' := by
  have EH := Lib.hid E
  obtain ⟨t0, t1⟩ := hb
  have ho : hasOperand 4 = true := rfl
  clear E
  go_enter Tryd.func52, Tryd.ntmps52
  go_wp2_with (first
    | (go_at_call 51; refine (EH.out.cell _ _ (by repeat (first | exact Below.refl _ _ | exact HW.out | apply b_alloc | apply b_drewN | (refine below_set1 ?_ (by simp; done) _ _))) (by first | assumption | exact (wrap16_range _).1) (by first | assumption | exact (wrap16_range _).2)).mono ?_; rintro e W ⟨rfl, k, rfl⟩)
    | (go_at_call 56; refine (EH.out.oper _ _ (by repeat (first | exact Below.refl _ _ | apply b_alloc | apply b_drewN | (refine below_set1 ?_ (by simp; done) _ _))) (by omega) (by omega)).mono ?_; rintro e W ⟨rfl, hW⟩; obtain ⟨hz, hw, hx⟩ := operFacts hW; have HZ := Lib.hid hz; have HW := Lib.hid hw; obtain ⟨⟨x0, x1, x2, x3, x4⟩, y0, y1, y2, y3, y4⟩ := cells5 hx; obtain ⟨⟨u0, u1, u2, u3, u4⟩, q0, q1, q2, q3, q4⟩ := cells5 (zeroRaw hz); clear hz hw hx hW))
  all_goals first
    | (refine tail_rw ?hz ?hb ?k
       case hz => repeat (first | exact ZeroAt.start _ | exact HZ.out | apply ZeroAt.alloc | apply ZeroAt.drewN | (refine ZeroAt.set ?_ (by simp; done) _))
       case hb => repeat (first | exact Below.refl _ _ | exact HW.out | apply b_alloc | apply b_drewN | (refine below_set1 ?_ (by simp; done) _ _))
       case k =>
         intro V hb hB
         obtain ⟨⟨g0, g1, g2, g3, g4⟩, _⟩ := cells5 hb
         clear hb
         refine bodyPost_ret (v := .tuple #[.agg #[.int .u16 (0), .int .i64 (0), .int .u16 (0), .int .u16 (0), .int .u16 (0)], .int .i64 162]) (by simp [results, Tryd.results52, go_sem, g0, g1, g2, g3, g4]) rfl ⟨rfl, hB⟩)
    | (exfalso; omega)

set_option maxRecDepth 100000 in
set_option maxHeartbeats 4000000 in
theorem instr_way4 (w : World) (A : Option Addr) (c : Nat) (code : List Int) (a : Int) (t v u : Int) (E : InstrEnv w A c code) (h0 : 0 ≤ a) (h1 : a < 65536) (bv : 0 ≤ v ∧ v < 65536) (hb : 0 ≤ t ∧ t < 65536) (hc : cellOf code a = some t) (hd : cellOf code t = some 4) (hv : cellOf code (IntKind.u16.wrap (a + 2)) = some v) (hu : cellOf code v = some u) :
    Calls Tryd.prog 52 #[.slice A code.length c, .int .u16 a] w fun e w' => e = .returned (.tuple #[(⟨a, 4, v, 0, IntKind.u16.wrap (a + 4)⟩ : FI).val, .int .i64 0]) ∧ Below w.heap.size w w' := by
  have EH := Lib.hid E
  obtain ⟨t0, t1⟩ := hb
  obtain ⟨v0, v1⟩ := bv
  have ho : hasOperand 4 = true := rfl
  clear E
  go_enter Tryd.func52, Tryd.ntmps52
  go_wp2_with (first
    | (go_at_call 51; refine (EH.out.cell _ _ (by repeat (first | exact Below.refl _ _ | exact HW.out | apply b_alloc | apply b_drewN | (refine below_set1 ?_ (by simp; done) _ _))) (by first | assumption | exact (wrap16_range _).1) (by first | assumption | exact (wrap16_range _).2)).mono ?_; rintro e W ⟨rfl, k, rfl⟩)
    | (go_at_call 56; refine (EH.out.oper _ _ (by repeat (first | exact Below.refl _ _ | apply b_alloc | apply b_drewN | (refine below_set1 ?_ (by simp; done) _ _))) (by omega) (by omega)).mono ?_; rintro e W ⟨rfl, hW⟩; obtain ⟨hz, hw, hx⟩ := operFacts hW; have HZ := Lib.hid hz; have HW := Lib.hid hw; obtain ⟨⟨x0, x1, x2, x3, x4⟩, y0, y1, y2, y3, y4⟩ := cells5 hx; obtain ⟨⟨u0, u1, u2, u3, u4⟩, q0, q1, q2, q3, q4⟩ := cells5 (zeroRaw hz); clear hz hw hx hW))
  all_goals first
    | (refine tail_rw ?hz ?hb ?k
       case hz => repeat (first | exact ZeroAt.start _ | exact HZ.out | apply ZeroAt.alloc | apply ZeroAt.drewN | (refine ZeroAt.set ?_ (by simp; done) _))
       case hb => repeat (first | exact Below.refl _ _ | exact HW.out | apply b_alloc | apply b_drewN | (refine below_set1 ?_ (by simp; done) _ _))
       case k =>
         intro V hb hB
         obtain ⟨⟨g0, g1, g2, g3, g4⟩, _⟩ := cells5 hb
         clear hb
         refine bodyPost_ret (v := .tuple #[.agg #[.int .u16 (a), .int .i64 (4), .int .u16 (v), .int .u16 (0), .int .u16 (IntKind.u16.wrap (a + 4))], .int .i64 0]) (by simp [results, Tryd.results52, go_sem, g0, g1, g2, g3, g4]) rfl ⟨rfl, hB⟩)
    | (exfalso; omega)

set_option maxRecDepth 100000 in
set_option maxHeartbeats 4000000 in
theorem instr_miss4 (w : World) (A : Option Addr) (c : Nat) (code : List Int) (a : Int) (t v : Int) (E : InstrEnv w A c code) (h0 : 0 ≤ a) (h1 : a < 65536) (bv : 0 ≤ v ∧ v < 65536) (hb : 0 ≤ t ∧ t < 65536) (hc : cellOf code a = some t) (hd : cellOf code t = some 4) (hv : cellOf code (IntKind.u16.wrap (a + 2)) = some v) (hu : cellOf code v = none) :
    Calls Tryd.prog 52 #[.slice A code.length c, .int .u16 a] w fun e w' => e = .returned (.tuple #[FI.zero.val, .int .i64 160]) ∧ Below w.heap.size w w' := by
  have EH := Lib.hid E
  obtain ⟨t0, t1⟩ := hb
  obtain ⟨v0, v1⟩ := bv
  have ho : hasOperand 4 = true := rfl
  clear E
  go_enter Tryd.func52, Tryd.ntmps52
  go_wp2_with (first
    | (go_at_call 51; refine (EH.out.cell _ _ (by repeat (first | exact Below.refl _ _ | exact HW.out | apply b_alloc | apply b_drewN | (refine below_set1 ?_ (by simp; done) _ _))) (by first | assumption | exact (wrap16_range _).1) (by first | assumption | exact (wrap16_range _).2)).mono ?_; rintro e W ⟨rfl, k, rfl⟩)
    | (go_at_call 56; refine (EH.out.oper _ _ (by repeat (first | exact Below.refl _ _ | apply b_alloc | apply b_drewN | (refine below_set1 ?_ (by simp; done) _ _))) (by omega) (by omega)).mono ?_; rintro e W ⟨rfl, hW⟩; obtain ⟨hz, hw, hx⟩ := operFacts hW; have HZ := Lib.hid hz; have HW := Lib.hid hw; obtain ⟨⟨x0, x1, x2, x3, x4⟩, y0, y1, y2, y3, y4⟩ := cells5 hx; obtain ⟨⟨u0, u1, u2, u3, u4⟩, q0, q1, q2, q3, q4⟩ := cells5 (zeroRaw hz); clear hz hw hx hW))
  all_goals first
    | (refine tail_rw ?hz ?hb ?k
       case hz => repeat (first | exact ZeroAt.start _ | exact HZ.out | apply ZeroAt.alloc | apply ZeroAt.drewN | (refine ZeroAt.set ?_ (by simp; done) _))
       case hb => repeat (first | exact Below.refl _ _ | exact HW.out | apply b_alloc | apply b_drewN | (refine below_set1 ?_ (by simp; done) _ _))
       case k =>
         intro V hb hB
         obtain ⟨⟨g0, g1, g2, g3, g4⟩, _⟩ := cells5 hb
         clear hb
         refine bodyPost_ret (v := .tuple #[.agg #[.int .u16 (0), .int .i64 (0), .int .u16 (0), .int .u16 (0), .int .u16 (0)], .int .i64 160]) (by simp [results, Tryd.results52, go_sem, g0, g1, g2, g3, g4]) rfl ⟨rfl, hB⟩)
    | (exfalso; omega)

set_option maxRecDepth 100000 in
set_option maxHeartbeats 4000000 in
theorem instr_gone5 (w : World) (A : Option Addr) (c : Nat) (code : List Int) (a : Int) (t : Int) (E : InstrEnv w A c code) (h0 : 0 ≤ a) (h1 : a < 65536) (hb : 0 ≤ t ∧ t < 65536) (hc : cellOf code a = some t) (hd : cellOf code t = some 5) (hv : cellOf code (IntKind.u16.wrap (a + 2)) = none) :
    Calls Tryd.prog 52 #[.slice A code.length c, .int .u16 a] w fun e w' => e = .returned (.tuple #[FI.zero.val, .int .i64 162]) ∧ Below w.heap.size w w' := by
  have EH := Lib.hid E
  obtain ⟨t0, t1⟩ := hb
  have ho : hasOperand 5 = true := rfl
  clear E
  go_enter Tryd.func52, Tryd.ntmps52
  go_wp2_with (first
    | (go_at_call 51; refine (EH.out.cell _ _ (by repeat (first | exact Below.refl _ _ | exact HW.out | apply b_alloc | apply b_drewN | (refine below_set1 ?_ (by simp; done) _ _))) (by first | assumption | exact (wrap16_range _).1) (by first | assumption | exact (wrap16_range _).2)).mono ?_; rintro e W ⟨rfl, k, rfl⟩)
    | (go_at_call 56; refine (EH.out.oper _ _ (by repeat (first | exact Below.refl _ _ | apply b_alloc | apply b_drewN | (refine below_set1 ?_ (by simp; done) _ _))) (by omega) (by omega)).mono ?_; rintro e W ⟨rfl, hW⟩; obtain ⟨hz, hw, hx⟩ := operFacts hW; have HZ := Lib.hid hz; have HW := Lib.hid hw; obtain ⟨⟨x0, x1, x2, x3, x4⟩, y0, y1, y2, y3, y4⟩ := cells5 hx; obtain ⟨⟨u0, u1, u2, u3, u4⟩, q0, q1, q2, q3, q4⟩ := cells5 (zeroRaw hz); clear hz hw hx hW))
  all_goals first
    | (refine tail_rw ?hz ?hb ?k
       case hz => repeat (first | exact ZeroAt.start _ | exact HZ.out | apply ZeroAt.alloc | apply ZeroAt.drewN | (refine ZeroAt.set ?_ (by simp; done) _))
       case hb => repeat (first | exact Below.refl _ _ | exact HW.out | apply b_alloc | apply b_drewN | (refine below_set1 ?_ (by simp; done) _ _))
       case k =>
         intro V hb hB
         obtain ⟨⟨g0, g1, g2, g3, g4⟩, _⟩ := cells5 hb
         clear hb
         refine bodyPost_ret (v := .tuple #[.agg #[.int .u16 (0), .int .i64 (0), .int .u16 (0), .int .u16 (0), .int .u16 (0)], .int .i64 162]) (by simp [results, Tryd.results52, go_sem, g0, g1, g2, g3, g4]) rfl ⟨rfl, hB⟩)
    | (exfalso; omega)

set_option maxRecDepth 100000 in
set_option maxHeartbeats 4000000 in
theorem instr_way5 (w : World) (A : Option Addr) (c : Nat) (code : List Int) (a : Int) (t v u : Int) (E : InstrEnv w A c code) (h0 : 0 ≤ a) (h1 : a < 65536) (bv : 0 ≤ v ∧ v < 65536) (hb : 0 ≤ t ∧ t < 65536) (hc : cellOf code a = some t) (hd : cellOf code t = some 5) (hv : cellOf code (IntKind.u16.wrap (a + 2)) = some v) (hu : cellOf code v = some u) :
    Calls Tryd.prog 52 #[.slice A code.length c, .int .u16 a] w fun e w' => e = .returned (.tuple #[(⟨a, 5, v, 0, IntKind.u16.wrap (a + 4)⟩ : FI).val, .int .i64 0]) ∧ Below w.heap.size w w' := by
  have EH := Lib.hid E
  obtain ⟨t0, t1⟩ := hb
  obtain ⟨v0, v1⟩ := bv
  have ho : hasOperand 5 = true := rfl
  clear E
  go_enter Tryd.func52, Tryd.ntmps52
  go_wp2_with (first
    | (go_at_call 51; refine (EH.out.cell _ _ (by repeat (first | exact Below.refl _ _ | exact HW.out | apply b_alloc | apply b_drewN | (refine below_set1 ?_ (by simp; done) _ _))) (by first | assumption | exact (wrap16_range _).1) (by first | assumption | exact (wrap16_range _).2)).mono ?_; rintro e W ⟨rfl, k, rfl⟩)
    | (go_at_call 56; refine (EH.out.oper _ _ (by repeat (first | exact Below.refl _ _ | apply b_alloc | apply b_drewN | (refine below_set1 ?_ (by simp; done) _ _))) (by omega) (by omega)).mono ?_; rintro e W ⟨rfl, hW⟩; obtain ⟨hz, hw, hx⟩ := operFacts hW; have HZ := Lib.hid hz; have HW := Lib.hid hw; obtain ⟨⟨x0, x1, x2, x3, x4⟩, y0, y1, y2, y3, y4⟩ := cells5 hx; obtain ⟨⟨u0, u1, u2, u3, u4⟩, q0, q1, q2, q3, q4⟩ := cells5 (zeroRaw hz); clear hz hw hx hW))
  all_goals first
    | (refine tail_rw ?hz ?hb ?k
       case hz => repeat (first | exact ZeroAt.start _ | exact HZ.out | apply ZeroAt.alloc | apply ZeroAt.drewN | (refine ZeroAt.set ?_ (by simp; done) _))
       case hb => repeat (first | exact Below.refl _ _ | exact HW.out | apply b_alloc | apply b_drewN | (refine below_set1 ?_ (by simp; done) _ _))
       case k =>
         intro V hb hB
         obtain ⟨⟨g0, g1, g2, g3, g4⟩, _⟩ := cells5 hb
         clear hb
         refine bodyPost_ret (v := .tuple #[.agg #[.int .u16 (a), .int .i64 (5), .int .u16 (v), .int .u16 (0), .int .u16 (IntKind.u16.wrap (a + 4))], .int .i64 0]) (by simp [results, Tryd.results52, go_sem, g0, g1, g2, g3, g4]) rfl ⟨rfl, hB⟩)
    | (exfalso; omega)

set_option maxRecDepth 100000 in
set_option maxHeartbeats 4000000 in
theorem instr_miss5 (w : World) (A : Option Addr) (c : Nat) (code : List Int) (a : Int) (t v : Int) (E : InstrEnv w A c code) (h0 : 0 ≤ a) (h1 : a < 65536) (bv : 0 ≤ v ∧ v < 65536) (hb : 0 ≤ t ∧ t < 65536) (hc : cellOf code a = some t) (hd : cellOf code t = some 5) (hv : cellOf code (IntKind.u16.wrap (a + 2)) = some v) (hu : cellOf code v = none) :
    Calls Tryd.prog 52 #[.slice A code.length c, .int .u16 a] w fun e w' => e = .returned (.tuple #[FI.zero.val, .int .i64 160]) ∧ Below w.heap.size w w' := by
  have EH := Lib.hid E
  obtain ⟨t0, t1⟩ := hb
  obtain ⟨v0, v1⟩ := bv
  have ho : hasOperand 5 = true := rfl
  clear E
  go_enter Tryd.func52, Tryd.ntmps52
  go_wp2_with (first
    | (go_at_call 51; refine (EH.out.cell _ _ (by repeat (first | exact Below.refl _ _ | exact HW.out | apply b_alloc | apply b_drewN | (refine below_set1 ?_ (by simp; done) _ _))) (by first | assumption | exact (wrap16_range _).1) (by first | assumption | exact (wrap16_range _).2)).mono ?_; rintro e W ⟨rfl, k, rfl⟩)
    | (go_at_call 56; refine (EH.out.oper _ _ (by repeat (first | exact Below.refl _ _ | apply b_alloc | apply b_drewN | (refine below_set1 ?_ (by simp; done) _ _))) (by omega) (by omega)).mono ?_; rintro e W ⟨rfl, hW⟩; obtain ⟨hz, hw, hx⟩ := operFacts hW; have HZ := Lib.hid hz; have HW := Lib.hid hw; obtain ⟨⟨x0, x1, x2, x3, x4⟩, y0, y1, y2, y3, y4⟩ := cells5 hx; obtain ⟨⟨u0, u1, u2, u3, u4⟩, q0, q1, q2, q3, q4⟩ := cells5 (zeroRaw hz); clear hz hw hx hW))
  all_goals first
    | (refine tail_rw ?hz ?hb ?k
       case hz => repeat (first | exact ZeroAt.start _ | exact HZ.out | apply ZeroAt.alloc | apply ZeroAt.drewN | (refine ZeroAt.set ?_ (by simp; done) _))
       case hb => repeat (first | exact Below.refl _ _ | exact HW.out | apply b_alloc | apply b_drewN | (refine below_set1 ?_ (by simp; done) _ _))
       case k =>
         intro V hb hB
         obtain ⟨⟨g0, g1, g2, g3, g4⟩, _⟩ := cells5 hb
         clear hb
         refine bodyPost_ret (v := .tuple #[.agg #[.int .u16 (0), .int .i64 (0), .int .u16 (0), .int .u16 (0), .int .u16 (0)], .int .i64 160]) (by simp [results, Tryd.results52, go_sem, g0, g1, g2, g3, g4]) rfl ⟨rfl, hB⟩)
    | (exfalso; omega)

set_option maxRecDepth 100000 in
set_option maxHeartbeats 4000000 in
theorem instr_gone7 (w : World) (A : Option Addr) (c : Nat) (code : List Int) (a : Int) (t : Int) (E : InstrEnv w A c code) (h0 : 0 ≤ a) (h1 : a < 65536) (hb : 0 ≤ t ∧ t < 65536) (hc : cellOf code a = some t) (hd : cellOf code t = some 7) (hv : cellOf code (IntKind.u16.wrap (a + 2)) = none) :
    Calls Tryd.prog 52 #[.slice A code.length c, .int .u16 a] w fun e w' => e = .returned (.tuple #[FI.zero.val, .int .i64 162]) ∧ Below w.heap.size w w' := by
  have EH := Lib.hid E
  obtain ⟨t0, t1⟩ := hb
  have ho : hasOperand 7 = true := rfl
  clear E
  go_enter Tryd.func52, Tryd.ntmps52
  go_wp2_with (first
    | (go_at_call 51; refine (EH.out.cell _ _ (by repeat (first | exact Below.refl _ _ | exact HW.out | apply b_alloc | apply b_drewN | (refine below_set1 ?_ (by simp; done) _ _))) (by first | assumption | exact (wrap16_range _).1) (by first | assumption | exact (wrap16_range _).2)).mono ?_; rintro e W ⟨rfl, k, rfl⟩)
    | (go_at_call 56; refine (EH.out.oper _ _ (by repeat (first | exact Below.refl _ _ | apply b_alloc | apply b_drewN | (refine below_set1 ?_ (by simp; done) _ _))) (by omega) (by omega)).mono ?_; rintro e W ⟨rfl, hW⟩; obtain ⟨hz, hw, hx⟩ := operFacts hW; have HZ := Lib.hid hz; have HW := Lib.hid hw; obtain ⟨⟨x0, x1, x2, x3, x4⟩, y0, y1, y2, y3, y4⟩ := cells5 hx; obtain ⟨⟨u0, u1, u2, u3, u4⟩, q0, q1, q2, q3, q4⟩ := cells5 (zeroRaw hz); clear hz hw hx hW))
  all_goals first
    | (refine tail_rw ?hz ?hb ?k
       case hz => repeat (first | exact ZeroAt.start _ | exact HZ.out | apply ZeroAt.alloc | apply ZeroAt.drewN | (refine ZeroAt.set ?_ (by simp; done) _))
       case hb => repeat (first | exact Below.refl _ _ | exact HW.out | apply b_alloc | apply b_drewN | (refine below_set1 ?_ (by simp; done) _ _))
       case k =>
         intro V hb hB
         obtain ⟨⟨g0, g1, g2, g3, g4⟩, _⟩ := cells5 hb
         clear hb
         refine bodyPost_ret (v := .tuple #[.agg #[.int .u16 (0), .int .i64 (0), .int .u16 (0), .int .u16 (0), .int .u16 (0)], .int .i64 162]) (by simp [results, Tryd.results52, go_sem, g0, g1, g2, g3, g4]) rfl ⟨rfl, hB⟩)
    | (exfalso; omega)

set_option maxRecDepth 100000 in
set_option maxHeartbeats 4000000 in
theorem instr_way7 (w : World) (A : Option Addr) (c : Nat) (code : List Int) (a : Int) (t v u : Int) (E : InstrEnv w A c code) (h0 : 0 ≤ a) (h1 : a < 65536) (bv : 0 ≤ v ∧ v < 65536) (hb : 0 ≤ t ∧ t < 65536) (hc : cellOf code a = some t) (hd : cellOf code t = some 7) (hv : cellOf code (IntKind.u16.wrap (a + 2)) = some v) (hu : cellOf code v = some u) :
    Calls Tryd.prog 52 #[.slice A code.length c, .int .u16 a] w fun e w' => e = .returned (.tuple #[(⟨a, 7, v, 0, IntKind.u16.wrap (a + 4)⟩ : FI).val, .int .i64 0]) ∧ Below w.heap.size w w' := by
  have EH := Lib.hid E
  obtain ⟨t0, t1⟩ := hb
  obtain ⟨v0, v1⟩ := bv
  have ho : hasOperand 7 = true := rfl
  clear E
  go_enter Tryd.func52, Tryd.ntmps52
  go_wp2_with (first
    | (go_at_call 51; refine (EH.out.cell _ _ (by repeat (first | exact Below.refl _ _ | exact HW.out | apply b_alloc | apply b_drewN | (refine below_set1 ?_ (by simp; done) _ _))) (by first | assumption | exact (wrap16_range _).1) (by first | assumption | exact (wrap16_range _).2)).mono ?_; rintro e W ⟨rfl, k, rfl⟩)
    | (go_at_call 56; refine (EH.out.oper _ _ (by repeat (first | exact Below.refl _ _ | apply b_alloc | apply b_drewN | (refine below_set1 ?_ (by simp; done) _ _))) (by omega) (by omega)).mono ?_; rintro e W ⟨rfl, hW⟩; obtain ⟨hz, hw, hx⟩ := operFacts hW; have HZ := Lib.hid hz; have HW := Lib.hid hw; obtain ⟨⟨x0, x1, x2, x3, x4⟩, y0, y1, y2, y3, y4⟩ := cells5 hx; obtain ⟨⟨u0, u1, u2, u3, u4⟩, q0, q1, q2, q3, q4⟩ := cells5 (zeroRaw hz); clear hz hw hx hW))
  all_goals first
    | (refine tail_rw ?hz ?hb ?k
       case hz => repeat (first | exact ZeroAt.start _ | exact HZ.out | apply ZeroAt.alloc | apply ZeroAt.drewN | (refine ZeroAt.set ?_ (by simp; done) _))
       case hb => repeat (first | exact Below.refl _ _ | exact HW.out | apply b_alloc | apply b_drewN | (refine below_set1 ?_ (by simp; done) _ _))
       case k =>
         intro V hb hB
         obtain ⟨⟨g0, g1, g2, g3, g4⟩, _⟩ := cells5 hb
         clear hb
         refine bodyPost_ret (v := .tuple #[.agg #[.int .u16 (a), .int .i64 (7), .int .u16 (v), .int .u16 (0), .int .u16 (IntKind.u16.wrap (a + 4))], .int .i64 0]) (by simp [results, Tryd.results52, go_sem, g0, g1, g2, g3, g4]) rfl ⟨rfl, hB⟩)
    | (exfalso; omega)

set_option maxRecDepth 100000 in
set_option maxHeartbeats 4000000 in
theorem instr_miss7 (w : World) (A : Option Addr) (c : Nat) (code : List Int) (a : Int) (t v : Int) (E : InstrEnv w A c code) (h0 : 0 ≤ a) (h1 : a < 65536) (bv : 0 ≤ v ∧ v < 65536) (hb : 0 ≤ t ∧ t < 65536) (hc : cellOf code a = some t) (hd : cellOf code t = some 7) (hv : cellOf code (IntKind.u16.wrap (a + 2)) = some v) (hu : cellOf code v = none) :
    Calls Tryd.prog 52 #[.slice A code.length c, .int .u16 a] w fun e w' => e = .returned (.tuple #[FI.zero.val, .int .i64 160]) ∧ Below w.heap.size w w' := by
  have EH := Lib.hid E
  obtain ⟨t0, t1⟩ := hb
  obtain ⟨v0, v1⟩ := bv
  have ho : hasOperand 7 = true := rfl
  clear E
  go_enter Tryd.func52, Tryd.ntmps52
  go_wp2_with (first
    | (go_at_call 51; refine (EH.out.cell _ _ (by repeat (first | exact Below.refl _ _ | exact HW.out | apply b_alloc | apply b_drewN | (refine below_set1 ?_ (by simp; done) _ _))) (by first | assumption | exact (wrap16_range _).1) (by first | assumption | exact (wrap16_range _).2)).mono ?_; rintro e W ⟨rfl, k, rfl⟩)
    | (go_at_call 56; refine (EH.out.oper _ _ (by repeat (first | exact Below.refl _ _ | apply b_alloc | apply b_drewN | (refine below_set1 ?_ (by simp; done) _ _))) (by omega) (by omega)).mono ?_; rintro e W ⟨rfl, hW⟩; obtain ⟨hz, hw, hx⟩ := operFacts hW; have HZ := Lib.hid hz; have HW := Lib.hid hw; obtain ⟨⟨x0, x1, x2, x3, x4⟩, y0, y1, y2, y3, y4⟩ := cells5 hx; obtain ⟨⟨u0, u1, u2, u3, u4⟩, q0, q1, q2, q3, q4⟩ := cells5 (zeroRaw hz); clear hz hw hx hW))
  all_goals first
    | (refine tail_rw ?hz ?hb ?k
       case hz => repeat (first | exact ZeroAt.start _ | exact HZ.out | apply ZeroAt.alloc | apply ZeroAt.drewN | (refine ZeroAt.set ?_ (by simp; done) _))
       case hb => repeat (first | exact Below.refl _ _ | exact HW.out | apply b_alloc | apply b_drewN | (refine below_set1 ?_ (by simp; done) _ _))
       case k =>
         intro V hb hB
         obtain ⟨⟨g0, g1, g2, g3, g4⟩, _⟩ := cells5 hb
         clear hb
         refine bodyPost_ret (v := .tuple #[.agg #[.int .u16 (0), .int .i64 (0), .int .u16 (0), .int .u16 (0), .int .u16 (0)], .int .i64 160]) (by simp [results, Tryd.results52, go_sem, g0, g1, g2, g3, g4]) rfl ⟨rfl, hB⟩)
    | (exfalso; omega)

end Go.Proofs.YtabeljpnmmfpgaaDoor
