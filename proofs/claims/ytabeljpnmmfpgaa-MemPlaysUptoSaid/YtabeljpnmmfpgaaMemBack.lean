/-
  image, back.
-/
import Derived.Test.YtabeljpnmmfpgaaMemApart1
import Derived.Test.YtabeljpnmmfpgaaMemOwn
import Derived.Deep.RegionHeld3
import Derived.Sort.AtCall
namespace Go.Proofs.Ytabeljpnmmfpgaa
open Go.RowKit Go.MapKept
set_option linter.unusedVariables false
set_option linter.unusedSimpArgs false

theorem image_any (w : World) (I : Img) (b r s : Value) (hb : ∃ a n c, b = .slice a n c) (hr : ∃ a n c, r = .slice a n c) (hs : ∃ a n c, s = .slice a n c) :
    Calls Try.prog 21 #[I.val b r s] w fun e w' => e = .returned (I.val b r s) ∧ Below w.heap.size w w' := by
  obtain ⟨l, ram, scr, chosen, pad, pitch, volume, time⟩ := I
  obtain ⟨a1, n1, c1, rfl⟩ := hb
  obtain ⟨a2, n2, c2, rfl⟩ := hr
  obtain ⟨a3, n3, c3, rfl⟩ := hs
  dsimp only [Img.val] at *
  go_enter Try.func21, Try.ntmps21
  go_wp2
  refine bodyPost_ret (v := .agg #[.slice a1 n1 c1, .slice a2 n2 c2, .slice a3 n3 c3, .int .u8 chosen, .int .u8 pad, .int .u16 pitch, .int .u8 volume, .int .u16 time]) (by simp [results, Try.results21, go_sem]) rfl ⟨rfl, ?_⟩
  repeat (first | exact Below.refl _ _ | (refine Below.alloc ?_ (by simp) _) | (refine Below.setCell ?_ (by simp) _))

/-- v lies in blocks from B on. -/
def From (B : Nat) (v : Value) : Prop := ∀ b o n c, v = .slice (some ⟨b, o, none⟩) n c → B ≤ b
theorem BytesIn.kept {w w' : World} {B : Nat} (hk : ∀ b o, B ≤ b → w'.cell? ⟨b, o, none⟩ = w.cell? ⟨b, o, none⟩) {v : Value} {l : List Int} (h : BytesIn w v l) (hf : From B v) : BytesIn w' v l := by
  obtain ⟨a, c, rfl, hn, h2⟩ := h
  refine ⟨a, c, rfl, hn, fun hl => ?_⟩
  obtain ⟨b, o, rfl, h4⟩ := h2 hl
  exact ⟨b, o, rfl, fun j hj => by rw [hk _ _ (hf _ _ _ _ rfl)]; exact h4 j hj⟩
theorem BanksIn.kept {w w' : World} {B : Nat} (hk : ∀ b o, B ≤ b → w'.cell? ⟨b, o, none⟩ = w.cell? ⟨b, o, none⟩) {v : Value} {l : List (Int × List Int)} {dv : Nat → Value} (h : BanksIn w v l dv) (hf : From B v) (hd : ∀ i, i < l.length → From B (dv i)) : BanksIn w' v l dv := by
  obtain ⟨⟨a, c, rfl, h2⟩, h3, h4⟩ := h
  refine ⟨⟨a, c, rfl, fun hl => ?_⟩, fun i hi => (h3 i hi).kept hk (hd i hi), h4⟩
  obtain ⟨ab, ao, rfl, hc⟩ := h2 hl
  exact ⟨ab, ao, rfl, fun i hi => ⟨by rw [hk _ _ (hf _ _ _ _ rfl)]; exact (hc i hi).1, by rw [hk _ _ (hf _ _ _ _ rfl)]; exact (hc i hi).2⟩⟩
theorem From.of_own {w : World} {base : Nat} {e : TypeId} {size n : Nat} {v : Value} {xs : List Value} (h : w.ownsRow base e size v n xs) : From base v := by
  rintro b o n' c rfl
  exact (h.lt b rfl).1
theorem From.mono {B B' : Nat} {v : Value} (h : From B v) (hb : B' ≤ B) : From B' v := fun b o n c e => Nat.le_trans hb (h b o n c e)
theorem OwnRel.froms {w wr : World} {l : List (Int × List Int)} {v : Value} {g c : Nat → Nat} (h : OwnRel w wr l l.length v g c) : From w.heap.size v ∧ ∀ i, i < l.length → From w.heap.size (bankSl l g c i) := by
  refine ⟨From.of_own h.row, fun i hi => ?_⟩
  rintro b o n c' e
  unfold bankSl at e
  cases e
  exact ((h.data i hi).lt _ rfl).1

theorem cells8 {W : World} {b : Nat} {x0 x1 x2 x3 x4 x5 x6 x7 : Value} {t : TypeId} (h : W.heap[b]? = some (.cells #[x0, x1, x2, x3, x4, x5, x6, x7] t (0, 0))) :
    W.cell? ⟨b, 0, none⟩ = some x0 ∧ W.cell? ⟨b, 1, none⟩ = some x1 ∧ W.cell? ⟨b, 2, none⟩ = some x2 ∧ W.cell? ⟨b, 3, none⟩ = some x3 ∧ W.cell? ⟨b, 4, none⟩ = some x4 ∧ W.cell? ⟨b, 5, none⟩ = some x5 ∧ W.cell? ⟨b, 6, none⟩ = some x6 ∧ W.cell? ⟨b, 7, none⟩ = some x7 ∧ ∀ j, W.frozen? ⟨b, j, none⟩ = false := by
  refine ⟨?_, ?_, ?_, ?_, ?_, ?_, ?_, ?_, fun j => by simp [World.frozen?, h]⟩ <;> rw [cell_of h] <;> rfl

/-- What stands while a struct of eight is built: the boxed parameter, the struct in the making. -/
structure Mk8 (w W : World) (V Z : Array Value) (tv tz : TypeId) : Prop where
  below : Below w.heap.size w W
  box : W.heap[w.heap.size]? = some (.cells V tv (0, 0))
  obj : W.heap[w.heap.size + 1]? = some (.cells Z tz (0, 0))
theorem Mk8.start (w : World) (V Z : Array Value) (tv tz : TypeId) : Mk8 w ((w.alloc (.cells V tv)).alloc (.cells Z tz)) V Z tv tz := by
  refine ⟨((Below.refl _ _).alloc (Nat.le_refl _) _).alloc (by simp) _, ?_, ?_⟩
  · rw [Below.heap_alloc _ _ _ (by simp)]; exact heap_alloc_at w _
  · have := heap_alloc_at (w.alloc (.cells V tv)) (.cells Z tz)
    simpa using this
theorem Mk8.lt {w W : World} {V Z : Array Value} {tv tz : TypeId} (h : Mk8 w W V Z tv tz) : w.heap.size + 1 < W.heap.size := (Array.getElem?_eq_some_iff.1 h.obj).1
theorem Mk8.next {w W W' : World} {V Z : Array Value} {tv tz : TypeId} (h : Mk8 w W V Z tv tz) (hb : Below W.heap.size W W') : Mk8 w W' V Z tv tz := by
  have := h.lt
  exact ⟨h.below.trans (hb.mono h.below.size), (hb.block _ (by omega)).trans h.box, (hb.block _ (by omega)).trans h.obj⟩

set_option maxRecDepth 100000 in
set_option maxHeartbeats 4000000 in
theorem back_apart (w : World) (I : Img) (b r s : Value) (dv : Nat → Value) (h : ImgIn w I b r s dv) (hsm : Small I.banks) (hlr : I.ram.length ≤ 2000000) (hls : I.scr.length ≤ 2000000) (ho : I.Ok) :
    Calls Try.prog 18 #[I.val b r s] w fun e w' => ∃ b' r' s' du, e = .returned (I.val b' r' s') ∧ ImgIn w' I b' r' s' du ∧ Below w.heap.size w w' ∧ Handed w w' I.banks.length du r' s' := by
  have hbk := ho.banks
  obtain ⟨l, ram, scr, chosen, pad, pitch, volume, time⟩ := I
  obtain ⟨h1, h2, h3⟩ := h
  dsimp only [Img.val] at *
  obtain ⟨V, hV⟩ : ∃ V : Array Value, V = #[b, r, s, .int .u8 chosen, .int .u8 pad, .int .u16 pitch, .int .u8 volume, .int .u16 time] := ⟨_, rfl⟩
  obtain ⟨Z, hZ⟩ : ∃ Z : Array Value, Z = #[.slice none 0 0, .slice none 0 0, .slice none 0 0, .int .u8 0, .int .u8 0, .int .u16 0, .int .u8 0, .int .u16 0] := ⟨_, rfl⟩
  have start := Mk8.start w V Z 45 49
  have cb : ∀ W, Mk8 w W V Z 45 49 → Calls Try.prog 8 #[b] W fun e w' => ∃ v', e = .returned v' ∧ (∃ a n c, v' = .slice a n c) ∧ Hid (∃ dw, BanksIn w' v' l dw ∧ From (w.heap.size + 2) v' ∧ (∀ i, i < l.length → From (w.heap.size + 2) (dw i)) ∧ ∃ gs : Nat → Nat, (∀ i, i < l.length → Str1 W w' (dw i) (gs i) (l.getD i (0, [])).2.length) ∧ ∀ i j, i < l.length → j < l.length → gs i = gs j → i = j) ∧ Hid (Below W.heap.size W w') ∧ Hid (Mk8 w w' V Z 45 49) := fun W hW =>
    (ownBanks_any W b l dv (h1.below hW.below) hsm).mono (by rintro e w' ⟨v', g, c, rfl, ho⟩; have hb := ho.banks hbk; obtain ⟨a, c', hx, _⟩ := hb.row; have hlt := hW.lt; obtain ⟨f1, f2⟩ := ho.froms; exact ⟨v', rfl, ⟨a, _, c', hx⟩, ⟨_, hb, f1.mono (by omega), (fun i hi => (f2 i hi).mono (by omega)), g, (fun i hi => Str1.of_own (ho.data i hi) (Nat.le_refl _) (by omega) (by have := hsm.2 i; omega)), ho.inj⟩, ho.below, hW.next ho.below⟩)
  have cr : ∀ W, Mk8 w W V Z 45 49 → Calls Try.prog 37 #[r] W fun e w' => ∃ g cap, e = .returned (.slice (some ⟨g, 0, none⟩) ram.length cap) ∧ Hid (BytesIn w' (.slice (some ⟨g, 0, none⟩) ram.length cap) ram ∧ From (w.heap.size + 2) (.slice (some ⟨g, 0, none⟩) ram.length cap) ∧ Str1 W w' (.slice (some ⟨g, 0, none⟩) ram.length cap) g ram.length) ∧ Hid (Below W.heap.size W w') ∧ Hid (Mk8 w w' V Z 45 49) := fun W hW =>
    (own_any W r ram (by omega) (h2.below hW.below)).mono (by rintro e w' ⟨g, cap, rfl, ho, hb⟩; have hlt := hW.lt; exact ⟨g, cap, rfl, ⟨BytesIn.of_own rfl ho, (From.of_own ho).mono (by omega), Str1.of_own ho (Nat.le_refl _) (Nat.le_refl _) (by omega)⟩, hb, hW.next hb⟩)
  have cs : ∀ W, Mk8 w W V Z 45 49 → Calls Try.prog 37 #[s] W fun e w' => ∃ g cap, e = .returned (.slice (some ⟨g, 0, none⟩) scr.length cap) ∧ Hid (BytesIn w' (.slice (some ⟨g, 0, none⟩) scr.length cap) scr ∧ From (w.heap.size + 2) (.slice (some ⟨g, 0, none⟩) scr.length cap) ∧ Str1 W w' (.slice (some ⟨g, 0, none⟩) scr.length cap) g scr.length) ∧ Hid (Below W.heap.size W w') ∧ Hid (Mk8 w w' V Z 45 49) := fun W hW =>
    (own_any W s scr (by omega) (h3.below hW.below)).mono (by rintro e w' ⟨g, cap, rfl, ho, hb⟩; have hlt := hW.lt; exact ⟨g, cap, rfl, ⟨BytesIn.of_own rfl ho, (From.of_own ho).mono (by omega), Str1.of_own ho (Nat.le_refl _) (Nat.le_refl _) (by omega)⟩, hb, hW.next hb⟩)
  subst hV; subst hZ
  obtain ⟨a1, c1, rfl, _⟩ := h1.row
  obtain ⟨a2, c2, rfl, _⟩ := h2
  obtain ⟨a3, c3, rfl, _⟩ := h3
  clear h1 hbk ho
  have START := Lib.hid start; have CB := Lib.hid cb; have CR := Lib.hid cr; have CS := Lib.hid cs
  clear start cb cr cs
  go_enter Try.func18, Try.ntmps18
  have st : Mk8 w ((w.alloc (.cells #[.slice a1 l.length c1, .slice a2 ram.length c2, .slice a3 scr.length c3, .int .u8 chosen, .int .u8 pad, .int .u16 pitch, .int .u8 volume, .int .u16 time] 45)).alloc (.cells #[.slice none 0 0, .slice none 0 0, .slice none 0 0, .int .u8 0, .int .u8 0, .int .u16 0, .int .u8 0, .int .u16 0] 49)).drew _ _ _ _ := START.out.next (Quiet.below ⟨1, rfl⟩)
  have ST := Lib.hid st
  obtain ⟨t0, t1, t2, t3, t4, t5, t6, t7, tf⟩ := cells8 st.box
  clear st START
  have T := Lib.hid (And.intro t0 (And.intro t1 (And.intro t2 (And.intro t3 (And.intro t4 (And.intro t5 (And.intro t6 t7)))))))
  clear t0 t1 t2 t3 t4 t5 t6 t7 tf
  go_wp2_with (fail)
  go_region_held3 (fun w' => w'.cell? ⟨w.heap.size, 0, none⟩ = some (.slice a1 l.length c1) ∧ w'.cell? ⟨w.heap.size, 1, none⟩ = some (.slice a2 ram.length c2) ∧ w'.cell? ⟨w.heap.size, 2, none⟩ = some (.slice a3 scr.length c3) ∧
      w'.cell? ⟨w.heap.size, 3, none⟩ = some (.int .u8 chosen) ∧ w'.cell? ⟨w.heap.size, 4, none⟩ = some (.int .u8 pad) ∧ w'.cell? ⟨w.heap.size, 5, none⟩ = some (.int .u16 pitch) ∧ w'.cell? ⟨w.heap.size, 6, none⟩ = some (.int .u8 volume) ∧ w'.cell? ⟨w.heap.size, 7, none⟩ = some (.int .u16 time))
    (first | with_reducible exact T.out | with_reducible exact PP.out | with_reducible exact QQ.out | with_reducible exact RR.out | (have R9 := RR.out; obtain ⟨r0, r1, r2, r3, r4, r5, r6, r7⟩ := R9; clear ST T PP QQ RR s0 s1 s2 s3 s4 s5 s6 s7 sf; go_keep))
    (first
    | (go_at_call 8; refine (CB.out _ ?bb).mono ?_; (case bb => exact ST.out); rintro e w1 ⟨v1, rfl, ⟨a4, n4, c4, rfl⟩, I1, L1, B1⟩; obtain ⟨p0, p1, p2, p3, p4, p5, p6, p7, pf⟩ := cells8 B1.out.box; have PP := Lib.hid (And.intro p0 (And.intro p1 (And.intro p2 (And.intro p3 (And.intro p4 (And.intro p5 (And.intro p6 p7))))))); clear p0 p1 p2 p3 p4 p5 p6 p7 pf)
    | (go_at_call_has 37 (Value.slice a2 ram.length c2); refine (CR.out _ ?br).mono ?_; (case br => exact B1.out); rintro e w2 ⟨g2, c5, rfl, I2, L2, B2⟩; obtain ⟨q0, q1, q2, q3, q4, q5, q6, q7, qf⟩ := cells8 B2.out.box; have QQ := Lib.hid (And.intro q0 (And.intro q1 (And.intro q2 (And.intro q3 (And.intro q4 (And.intro q5 (And.intro q6 q7))))))); clear q0 q1 q2 q3 q4 q5 q6 q7 qf)
    | (go_at_call_has 37 (Value.slice a3 scr.length c3); refine (CS.out _ ?bs).mono ?_; (case bs => exact B2.out); rintro e w3 ⟨g3, c6, rfl, I3, L3, B3⟩; clear CB CR CS; obtain ⟨r0, r1, r2, r3, r4, r5, r6, r7, rf⟩ := cells8 B3.out.box; have RR := Lib.hid (And.intro r0 (And.intro r1 (And.intro r2 (And.intro r3 (And.intro r4 (And.intro r5 (And.intro r6 r7))))))); clear r0 r1 r2 r3 r4 r5 r6 r7 rf; obtain ⟨s0, s1, s2, s3, s4, s5, s6, s7, sf⟩ := cells8 B3.out.obj))
  have ob := heap_set_cell (heap_set_cell (heap_set_cell (heap_set_cell (heap_set_cell (heap_set_cell (heap_set_cell (heap_set_cell B3.out.obj 0 (.slice a4 n4 c4)) 1 (.slice (some ⟨g2, 0, none⟩) ram.length c5)) 2 (.slice (some ⟨g3, 0, none⟩) scr.length c6)) 3 (.int .u8 chosen)) 4 (.int .u8 pad)) 5 (.int .u16 pitch)) 6 (.int .u8 volume)) 7 (.int .u16 time)
  simp only [List.setIfInBounds_toArray, List.set_cons_zero, List.set_cons_succ] at ob
  have hbl := ((((((((B3.out.below.setCell (p := ⟨w.heap.size + 1, 0, none⟩) (by simp) (.slice a4 n4 c4)).setCell (p := ⟨w.heap.size + 1, 1, none⟩) (by simp) (.slice (some ⟨g2, 0, none⟩) ram.length c5)).setCell (p := ⟨w.heap.size + 1, 2, none⟩) (by simp) (.slice (some ⟨g3, 0, none⟩) scr.length c6)).setCell (p := ⟨w.heap.size + 1, 3, none⟩) (by simp) (.int .u8 chosen)).setCell (p := ⟨w.heap.size + 1, 4, none⟩) (by simp) (.int .u8 pad)).setCell (p := ⟨w.heap.size + 1, 5, none⟩) (by simp) (.int .u16 pitch)).setCell (p := ⟨w.heap.size + 1, 6, none⟩) (by simp) (.int .u8 volume)).setCell (p := ⟨w.heap.size + 1, 7, none⟩) (by simp) (.int .u16 time))
  obtain ⟨w4, hw4⟩ : ∃ w4, w4 = ((((((((w3.setCell ⟨w.heap.size + 1, 0, none⟩ (.slice a4 n4 c4)).setCell ⟨w.heap.size + 1, 1, none⟩ (.slice (some ⟨g2, 0, none⟩) ram.length c5)).setCell ⟨w.heap.size + 1, 2, none⟩ (.slice (some ⟨g3, 0, none⟩) scr.length c6)).setCell ⟨w.heap.size + 1, 3, none⟩ (.int .u8 chosen)).setCell ⟨w.heap.size + 1, 4, none⟩ (.int .u8 pad)).setCell ⟨w.heap.size + 1, 5, none⟩ (.int .u16 pitch)).setCell ⟨w.heap.size + 1, 6, none⟩ (.int .u8 volume)).setCell ⟨w.heap.size + 1, 7, none⟩ (.int .u16 time)) := ⟨_, rfl⟩
  have hk : ∀ b o, w.heap.size + 2 ≤ b → w4.cell? ⟨b, o, none⟩ = w3.cell? ⟨b, o, none⟩ := by
    intro b o hb
    have hne : b ≠ w.heap.size + 1 := by omega
    rw [hw4]
    iterate 8 rw [World.cell?_setCell_other _ _ _ _ (by first | (simp; done) | (simp; omega))]
  rw [← hw4] at ob hbl ⊢
  have fin : ∃ du, ImgIn w4 ⟨l, ram, scr, chosen, pad, pitch, volume, time⟩ (.slice a4 n4 c4) (.slice (some ⟨g2, 0, none⟩) ram.length c5) (.slice (some ⟨g3, 0, none⟩) scr.length c6) du ∧ Handed w w4 l.length du (.slice (some ⟨g2, 0, none⟩) ram.length c5) (.slice (some ⟨g3, 0, none⟩) scr.length c6) := by
    obtain ⟨dw, k1, k2, k3, gs, k4, k5⟩ := I1.out
    have hh : ∀ i, w.heap.size + 2 ≤ i → w4.heap[i]? = w3.heap[i]? := by
      intro i hi
      have hne : i ≠ w.heap.size + 1 := by omega
      rw [hw4]
      iterate 8 rw [heap_set_far hne]
    have z0 := ST.out.lt
    have z1 := L1.out.size; have z2 := L2.out.size; have z3 := L3.out.size
    have up : ∀ {W W' : World} {v : Value} {g n : Nat}, Str1 W W' v g n → w.heap.size + 2 ≤ W.heap.size → Below W'.heap.size W' w3 → Str1 w w4 v g n := fun h h1 h2 => by
      have h3 := (h.below h2).keep (W' := w4) (hh _ (by have := h.new; omega))
      exact ⟨h3.is, by have := h.new; omega, h3.small⟩
    refine ⟨dw, ⟨((k1.below L2.out).below L3.out).kept hk k2 k3, (I2.out.1.below L3.out).kept hk I2.out.2.1, I3.out.1.kept hk I3.out.2.1⟩, Handed.mk (fun i hi => up (k4 i hi) (by omega) (L2.out.trans (L3.out.mono (by omega)))) (up I2.out.2.2 (by omega) L3.out) (up I3.out.2.2 (by omega) (Below.refl _ _)) k5 (fun i hi => ?_) (fun i hi => ?_) ?_⟩
    · have := (k4 i hi).lt; have := I2.out.2.2.new; omega
    · have := (k4 i hi).lt; have := I3.out.2.2.new; omega
    · have := I2.out.2.2.lt; have := I3.out.2.2.new; omega
  have FIN := Lib.hid fin
  have HBL := Lib.hid hbl
  obtain ⟨z0, z1, z2, z3, z4, z5, z6, z7, zf⟩ := cells8 ob
  clear fin hbl hk hw4 ob T ST PP QQ RR I1 I2 I3 L1 L2 L3 B1 B2 B3 s0 s1 s2 s3 s4 s5 s6 s7 sf
  go_wp2_with (fail)
  refine bodyPost_ret (v := .agg #[.slice a4 n4 c4, .slice (some ⟨g2, 0, none⟩) ram.length c5, .slice (some ⟨g3, 0, none⟩) scr.length c6, .int .u8 chosen, .int .u8 pad, .int .u16 pitch, .int .u8 volume, .int .u16 time]) (by simp [results, Try.results18, go_sem, z0, z1, z2, z3, z4, z5, z6, z7]) rfl ?_
  obtain ⟨du, hfin⟩ := FIN.out
  exact ⟨_, _, _, du, rfl, hfin.1, HBL.out, hfin.2⟩

theorem back_any (w : World) (I : Img) (b r s : Value) (dv : Nat → Value) (h : ImgIn w I b r s dv) (hsm : Small I.banks) (hlr : I.ram.length ≤ 2000000) (hls : I.scr.length ≤ 2000000) (ho : I.Ok) :
    Calls Try.prog 18 #[I.val b r s] w fun e w' => ∃ b' r' s' du, e = .returned (I.val b' r' s') ∧ ImgIn w' I b' r' s' du ∧ Below w.heap.size w w' :=
  (back_apart w I b r s dv h hsm hlr hls ho).mono fun e w' ⟨b', r', s', du, h1, h2, h3, _⟩ => ⟨b', r', s', du, h1, h2, h3⟩
end Go.Proofs.Ytabeljpnmmfpgaa
