/-
  SameBanks, SameImage at lists that read alike; image.
-/
import Derived.Test.YtabeljpnmmfpgaaMemOwn2
namespace Go.Proofs.Ytabeljpnmmfpgaa
open Go.RowKit Go.MapKept
set_option linter.unusedVariables false
set_option linter.unusedSimpArgs false

theorem BytesIn.quiet {w w' : World} (h : Quiet w w') {v : Value} {l : List Int} (hb : BytesIn w v l) : BytesIn w' v l := hb.below h.below
theorem BanksIn.quiet {w w' : World} (h : Quiet w w') {v : Value} {l : List (Int × List Int)} {dv : Nat → Value} (hb : BanksIn w v l dv) : BanksIn w' v l dv := hb.below h.below

set_option maxRecDepth 100000 in
set_option maxHeartbeats 2000000 in
theorem sameBanks_any (w : World) (v u : Value) (l : List (Int × List Int)) (dv du : Nat → Value) (hv : BanksIn w v l dv) (hu : BanksIn w u l du) (hlen : l.length ≤ 2000000) :
    Calls Try.prog 39 #[v, u] w fun e w' => e = .returned (.bool true) ∧ Quiet w w' := by
  obtain ⟨A, cap, rfl, hrow⟩ := hv.row
  obtain ⟨B, cup, rfl, huow⟩ := hu.row
  have HV := Lib.hid hv; have HU := Lib.hid hu; have HR := Lib.hid hrow; have HS := Lib.hid huow
  clear hv hu hrow huow
  go_enter Try.func39, Try.ntmps39
  go_wp2_with (fail)
  go_loopw [13] (fun i wr => ∃ k : Nat, k ≤ l.length ∧ i = .int .i64 k ∧ Hid (Quiet w wr)) (fun i _ => l.length - (intOf i).toNat)
  case atStart => exact ⟨0, Nat.zero_le _, rfl, Quiet.refl _⟩
  case round =>
    obtain ⟨k, hk, rfl, hq⟩ := hrel
    by_cases hlt : k < l.length
    · obtain ⟨ab, ao, rfl, hcc⟩ := HR.out (by omega)
      obtain ⟨bb, bo, rfl, hcd⟩ := HS.out (by omega)
      have hx := HV.out.bytes k hlt
      have hy := HU.out.bytes k hlt
      obtain ⟨da, dc, hd, _, _⟩ := HV.out.bytes k hlt
      obtain ⟨ea, ec, he, _, _⟩ := HU.out.bytes k hlt
      have hh := hq.out.heap
      have c0 : wr.cell? ⟨ab, ao + k * 2, none⟩ = some (.int .i64 (l.getD k (0, [])).1) := by rw [← (hcc k hlt).1]; simp only [World.cell?, hh]
      have c1 : wr.cell? ⟨ab, ao + k * 2 + 1, none⟩ = some (dv k) := by rw [← (hcc k hlt).2]; simp only [World.cell?, hh]
      have d0 : wr.cell? ⟨bb, bo + k * 2, none⟩ = some (.int .i64 (l.getD k (0, [])).1) := by rw [← (hcd k hlt).1]; simp only [World.cell?, hh]
      have d1 : wr.cell? ⟨bb, bo + k * 2 + 1, none⟩ = some (du k) := by rw [← (hcd k hlt).2]; simp only [World.cell?, hh]
      have v0 : ∀ n, (convert 35 9 (dv k)).run Try.prog (wr.drewN n) = .ok (.string (bstr (l.getD k (0, [])).2)) (wr.drewN n) := fun n =>
        run_conv_bytes Try.underlying35 Try.underlying5 Try.underlying9 (hx.quiet (hq.out.trans ⟨n, rfl⟩))
      have u0 : ∀ n, (convert 35 9 (du k)).run Try.prog (wr.drewN n) = .ok (.string (bstr (l.getD k (0, [])).2)) (wr.drewN n) := fun n =>
        run_conv_bytes Try.underlying35 Try.underlying5 Try.underlying9 (hy.quiet (hq.out.trans ⟨n, rfl⟩))
      rw [hd] at c1 v0
      rw [he] at d1 u0
      obtain ⟨s, hs⟩ : ∃ s, s = bstr (l.getD k (0, [])).2 := ⟨_, rfl⟩
      obtain ⟨nm, hn⟩ : ∃ nm, nm = (l.getD k (0, [])).1 := ⟨_, rfl⟩
      obtain ⟨ln, hl⟩ : ∃ ln, ln = (l.getD k (0, [])).2.length := ⟨_, rfl⟩
      rw [← hs] at v0 u0
      rw [← hn] at c0 d0
      rw [← hl] at c1 d1 v0 u0
      clear hs hn hl hh hcc hcd hx hy hd he
      go_wp2_with (fail)
      go_quiet (fail)
      go_wp2_with (fail)
      have hq2 : Hid (Quiet w (wr.drewN nq)) := hq.out.trans ⟨nq, rfl⟩
      go_roundw
      case rel => exact ⟨k + 1, hlt, by go_num, hq2⟩
      case measure => simp [intOf]; omega
    · have hke : k = l.length := by omega
      clear hke
      go_wp2_with (fail)
      go_ret
      exact ⟨rfl, hq.out⟩

/-! ### images -/
structure Img where
  banks : List (Int × List Int)
  ram : List Int
  scr : List Int
  chosen : Int
  pad : Int
  pitch : Int
  volume : Int
  time : Int

def Img.val (I : Img) (b r s : Value) : Value := .agg #[b, r, s, .int .u8 I.chosen, .int .u8 I.pad, .int .u16 I.pitch, .int .u8 I.volume, .int .u16 I.time]

structure Img.Ok (I : Img) : Prop where
  ram : IsBytes I.ram
  scr : IsBytes I.scr
  banks : ∀ i, i < I.banks.length → IsBytes (I.banks.getD i (0, [])).2
  chosen : 0 ≤ I.chosen ∧ I.chosen < 256
  pad : 0 ≤ I.pad ∧ I.pad < 256
  pitch : 0 ≤ I.pitch ∧ I.pitch < 65536
  volume : 0 ≤ I.volume ∧ I.volume < 256
  time : 0 ≤ I.time ∧ I.time < 65536

structure ImgIn (w : World) (I : Img) (b r s : Value) (dv : Nat → Value) : Prop where
  banks : BanksIn w b I.banks dv
  ram : BytesIn w r I.ram
  scr : BytesIn w s I.scr

theorem ImgIn.below {w w' : World} (h : Below w.heap.size w w') {I : Img} {b r s : Value} {dv : Nat → Value} (hi : ImgIn w I b r s dv) : ImgIn w' I b r s dv :=
  ⟨hi.banks.below h, hi.ram.below h, hi.scr.below h⟩

set_option maxRecDepth 100000 in
set_option maxHeartbeats 2000000 in
theorem sameImage_any (w : World) (I : Img) (b r s b' r' s' : Value) (dv du : Nat → Value) (h : ImgIn w I b r s dv) (h' : ImgIn w I b' r' s' du) (hlen : I.banks.length ≤ 2000000) :
    Calls Try.prog 20 #[I.val b r s, I.val b' r' s'] w fun e w' => e = .returned (.bool true) ∧ Below w.heap.size w w' := by
  obtain ⟨l, ram, scr, chosen, pad, pitch, volume, time⟩ := I
  obtain ⟨h1, h2, h3⟩ := h
  obtain ⟨k1, k2, k3⟩ := h'
  dsimp only [Img.val] at *
  obtain ⟨a1, c1, rfl, h1r⟩ := h1.row
  obtain ⟨a2, c2, rfl, h2n, h2r⟩ := h2
  obtain ⟨a3, c3, rfl, h3n, h3r⟩ := h3
  obtain ⟨e1, f1, rfl, k1r⟩ := k1.row
  obtain ⟨e2, f2, rfl, k2n, k2r⟩ := k2
  obtain ⟨e3, f3, rfl, k3n, k3r⟩ := k3
  obtain ⟨V, hV⟩ : ∃ V : Array Value, V = #[.slice a1 l.length c1, .slice a2 ram.length c2, .slice a3 scr.length c3, .int .u8 chosen, .int .u8 pad, .int .u16 pitch, .int .u8 volume, .int .u16 time] := ⟨_, rfl⟩
  obtain ⟨U, hU⟩ : ∃ U : Array Value, U = #[.slice e1 l.length f1, .slice e2 ram.length f2, .slice e3 scr.length f3, .int .u8 chosen, .int .u8 pad, .int .u16 pitch, .int .u8 volume, .int .u16 time] := ⟨_, rfl⟩
  have hb : Below w.heap.size w ((w.alloc (.cells V 45)).alloc (.cells U 45)) := (((Below.refl _ _).alloc (Nat.le_refl _) _).alloc (by simp) _)
  have call := sameBanks_any ((w.alloc (.cells V 45)).alloc (.cells U 45)) _ _ l dv du (h1.below hb) (k1.below hb) hlen
  have g2 : ∀ W, Below w.heap.size w W → (convert 35 9 (.slice a2 ram.length c2)).run Try.prog W = .ok (.string (bstr ram)) W := fun W hW =>
    run_conv_bytes Try.underlying35 Try.underlying5 Try.underlying9 (BytesIn.below hW ⟨a2, c2, rfl, h2n, h2r⟩)
  have g3 : ∀ W, Below w.heap.size w W → (convert 35 9 (.slice a3 scr.length c3)).run Try.prog W = .ok (.string (bstr scr)) W := fun W hW =>
    run_conv_bytes Try.underlying35 Try.underlying5 Try.underlying9 (BytesIn.below hW ⟨a3, c3, rfl, h3n, h3r⟩)
  have j2 : ∀ W, Below w.heap.size w W → (convert 35 9 (.slice e2 ram.length f2)).run Try.prog W = .ok (.string (bstr ram)) W := fun W hW =>
    run_conv_bytes Try.underlying35 Try.underlying5 Try.underlying9 (BytesIn.below hW ⟨e2, f2, rfl, k2n, k2r⟩)
  have j3 : ∀ W, Below w.heap.size w W → (convert 35 9 (.slice e3 scr.length f3)).run Try.prog W = .ok (.string (bstr scr)) W := fun W hW =>
    run_conv_bytes Try.underlying35 Try.underlying5 Try.underlying9 (BytesIn.below hW ⟨e3, f3, rfl, k3n, k3r⟩)
  have HC := Lib.hid call
  have hV' := hV; have hU' := hU
  subst hV; subst hU
  have G2 := Lib.hid g2; have G3 := Lib.hid g3; have J2 := Lib.hid j2; have J3 := Lib.hid j3; have HB := Lib.hid hb
  clear g2 g3 j2 j3 call h1 k1 h1r h2r h3r k1r k2r k3r h2n h3n k2n k3n hV' hU' hb
  obtain ⟨s2, hs2⟩ : ∃ s2, s2 = bstr ram := ⟨_, rfl⟩
  obtain ⟨s3, hs3⟩ : ∃ s3, s3 = bstr scr := ⟨_, rfl⟩
  rw [← hs2] at G2 J2
  rw [← hs3] at G3 J3
  clear hs2 hs3
  have HQ : Hid (∀ n, (convert 35 9 (.slice a2 ram.length c2)).run Try.prog (World.drewN w n) = .ok (.string s2) (World.drewN w n)) := fun n => G2.out _ (Quiet.below ⟨n, rfl⟩)
  go_enter Try.func20, Try.ntmps20
  go_wp2_with (go_at_call 39; refine HC.out.mono ?_; rintro e w' ⟨rfl, q, rfl⟩; have HB2 := Lib.hid (HB.out.trans (Quiet.below ⟨q, rfl⟩)); have g2 := G2.out _ HB2.out; have g3 := G3.out _ HB2.out; have j2 := J2.out _ HB2.out; have j3 := J3.out _ HB2.out)
  go_ret
  exact ⟨rfl, HB2.out⟩
end Go.Proofs.Ytabeljpnmmfpgaa
