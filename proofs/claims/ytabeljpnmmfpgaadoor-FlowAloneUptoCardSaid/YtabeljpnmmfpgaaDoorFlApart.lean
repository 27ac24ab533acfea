/-
  apart: lists that lie apart are written over, grown and read again. Printed by wip/apart.py.
-/
import Derived.Deep.CutBlock
import Derived.Deep.DeepCutAuto
import Derived.Test.YtabeljpnmmfpgaaDoorFlGrp
namespace Go.Proofs.YtabeljpnmmfpgaaDoor
open Go.RowKit Go.MapKept Go.Maps Go.Sort
set_option linter.unusedVariables false
set_option linter.unusedSimpArgs false

def shI (q : Nat) (u : Value) : Prop := if q = 1 then ∃ n, u = .int .i64 n else ∃ n, u = .int .u16 n
def shC (q : Nat) (u : Value) : Prop := ∃ n, u = .int .u16 n
def shW (q : Nat) (u : Value) : Prop := if q = 0 then ∃ n, u = .int .u16 n else ∃ A n c, u = .slice A n c
def m16 (i : Nat) : Int := IntKind.u16.wrap (1000 + (i : Int))
def mkI (i : Nat) : List Value := [.int .u16 0, .int .i64 (1000 + (i : Int)), .int .u16 0, .int .u16 0, .int .u16 0]
def mkC (i : Nat) : List Value := [.int .u16 (m16 i)]
def mkW (i : Nat) : List Value := [.int .u16 (m16 i), .slice none 0 0, .slice none 0 0]
theorem infoLI : (Tryd.prog.info? 50).map (fun i => (i.zero, i.size, i.bytes)) = some (some (.slice none 0 0), 1, 24) := by kernel_rfl
theorem infoLC : (Tryd.prog.info? 51).map (fun i => (i.zero, i.size, i.bytes)) = some (some (.slice none 0 0), 1, 24) := by kernel_rfl
theorem infoLW : (Tryd.prog.info? 30).map (fun i => (i.zero, i.size, i.bytes)) = some (some (.slice none 0 0), 1, 24) := by kernel_rfl
/-- The book: three rows of rows, all apart. -/
structure BookAt (w : World) (base X : Nat) (vI vC vW : List Value) (AI AC AW : Option Addr) (cI cC cW : Nat) : Prop where
  fI : Fld w X 1 vI AI cI
  fC : Fld w X 2 vC AC cC
  fW : Fld w X 0 vW AW cW
  gI : ∀ (j : Nat) (hj : j < vI.length), Mkd shI w base 60 5 vI[j] [] 0
  gC : ∀ (j : Nat) (hj : j < vC.length), Mkd shC w base 23 1 vC[j] [] 0
  gW : ∀ (j : Nat) (hj : j < vW.length), Mkd shW w base 53 3 vW[j] [] 0
  nI : (bks vI).Nodup
  nC : (bks vC).Nodup
  nW : (bks vW).Nodup
  dIC : ∀ b ∈ bks vI, b ∉ bks vC
  dIW : ∀ b ∈ bks vI, b ∉ bks vW
  dCW : ∀ b ∈ bks vC, b ∉ bks vW
  fr : ∀ b, (b = X ∨ (∃ ad, AI = some ad ∧ b = ad.block) ∨ (∃ ad, AC = some ad ∧ b = ad.block) ∨ (∃ ad, AW = some ad ∧ b = ad.block)) → b ∉ bks vI ∧ b ∉ bks vC ∧ b ∉ bks vW
  lI : vI.length ≤ 1000000
  lC : vC.length ≤ 1000000
  lW : vW.length ≤ 1000000
/-- Any of the rows' blocks. -/
def anyB (vI vC vW : List Value) (b : Nat) : Prop := b ∈ bks vI ∨ b ∈ bks vC ∨ b ∈ bks vW
theorem bks_lt {sh : Nat → Value → Prop} {W : World} {base s : Nat} {e : TypeId} {vs : List Value} {M : Nat → List Value} {T : Nat → Nat} (h : ∀ (j : Nat) (hj : j < vs.length), Mkd sh W base e s vs[j] (M j) (T j)) : ∀ b ∈ bks vs, b < W.heap.size ∧ base ≤ b := fun b hb => by
  obtain ⟨y, hy, hb2⟩ := List.mem_flatMap.1 hb
  obtain ⟨j, hj, rfl⟩ := List.getElem_of_mem hy
  exact (h j hj).own b (by simpa using hb2)

/-- The code behind the first statements. -/
def tailN : Nat → Code → Code
  | n + 1, .seq _ b => tailN n b
  | _, c => c
/-- All are written over. -/
structure ApA (w wx : World) (base X : Nat) (vI vC vW : List Value) (AI AC AW : Option Addr) (cI cC cW : Nat) : Prop where
  up : Upd w wx (anyB vI vC vW)
  fI : Fld wx X 1 vI AI cI
  fC : Fld wx X 2 vC AC cC
  fW : Fld wx X 0 vW AW cW
  dI : ∀ (j : Nat) (hj : j < vI.length), Mkd shI wx base 60 5 vI[j] (mkI j) (vlen vI[j] * 5)
  dC : ∀ (j : Nat) (hj : j < vC.length), Mkd shC wx base 23 1 vC[j] (mkC j) (vlen vC[j] * 1)
  dW : ∀ (j : Nat) (hj : j < vW.length), Mkd shW wx base 53 3 vW[j] (mkW j) (vlen vW[j] * 3)
/-- All are grown. -/
structure ApB (w wx : World) (X : Nat) (vI vC vW : List Value) (AI AC AW : Option Addr) (cI cC cW : Nat) (ysI ysC ysW : List Value) (AxI AxC AxW : Option Addr) (cxI cxC cxW : Nat) : Prop where
  up : Upd w wx (anyB vI vC vW)
  fI : Fld wx X 1 vI AI cI
  fC : Fld wx X 2 vC AC cC
  fW : Fld wx X 0 vW AW cW
  tI : PC wx 5 12 mkI vI ysI AxI cxI
  tC : PC wx 1 12 mkC vC ysC AxC cxC
  tW : PC wx 3 80 mkW vW ysW AxW cxW
  lI : vI.length ≤ 1000000
  lC : vC.length ≤ 1000000
  lW : vW.length ≤ 1000000
set_option maxRecDepth 100000 in
set_option maxHeartbeats 8000000 in
theorem apartC (w w6 : World) (base X : Nat) (vI vC vW : List Value) (AI AC AW : Option Addr) (cI cC cW : Nat) (ysI ysC ysW : List Value) (AxI AxC AxW : Option Addr) (cxI cxC cxW : Nat) (h : ApB w w6 X vI vC vW AI AC AW cI cC cW ysI ysC ysW AxI AxC AxW cxI cxC cxW) {u1 u3 u4 u5 u6 u7 u8 u12 u13 u14 u15 u16 u17 u18 u19 u20 u21 u22 u23 u24 u25 u26 u27 u28 u29 u30 u31 u32 u33 u34 u35 u36 u37 u38 u39 u40 u41 u42 u43 u44 u45 u46 u47 u48 u49 u50 u51 u52 u53 u54 u55 u56 u57 u58 u59 u60 u61 u62 u63 u64 u65 u66 u67 u68 u69 u70 u71 u72 u73 u74 u75 u76 u77 u78 u79 u80 u81 u82 u83 u84 u85 u86 u87 u88 u89 u90 u91 u92 u93 u94 u95 u96 u97 u98 u99 u100 u101 u102 u103 u104 u105 u106 u107 u108 u109 u110 u111 u112 u113 u114 u115 u116 u117 u118 u119 u120 u121 u122 u123 u124 u125 u126 u127 u128 u129 u130 u131 u132 u133 u134 u135 u136 u137 u138 u139 u140 u141 u142 u143 u144 u145 u146 u147 u148 u149 u150 u151 u152 u153 u154 u155 u156 u157 u158 u159 u160 u161 u162 u163 u164 u165 u166 u167 u168 u169 u170 u171 u172 u173 u174 u175 u176 u177 u178 u179 u180 u181 u182 u183 u184 u185 u186 u187 u188 u189 u190 u191 u192 u193 u194 u195 u196 u197 u198 u199 u200 u201 u202 u203 u204 u205 u206 u207 u208 u209 u210 u211 u212 u213 u214 u215 u216 u217 u218 u219 u220 u221 u222 u223 u224 u225 u226 u227 u228 u229 u230 u231 u232 u233 u234 u235 u236 u237 u238 u239 u240 u241 u242 u243 u244 u245 u246 u247 u248 u249 u250 u251 u252 u253 u254 u255 u256 u257 u258 u259 u260 u261 u262 u263 u264 u265 u266 u267 u268 u269 u270 u271 u272 u273 u274 u275 u276 u277 u278 u279 u280 u281 u282 u283 u284 u285 u286 u287 u288 u289 u290 u291 u292 u293 u294 u295 u296 u297 u298 u299 u300 u301 u302 u303 u304 u305 u306 u307 u308 u309 u310 u311 u312 u313 u314 u315 u316 u317 u318 u319 u320 u321 u322 u323 u324 u325 u326 u327 u328 u329 u330 u331 u332 u333 u334 u335 u336 u337 u338 u339 u340 u341 u342 u343 u344 u345 u346 u347 u348 u349 u350 u351 u352 u353 u354 u355 u356 u357 u358 u359 u360 u361 u362 u363 u364 u365 u366 u367 u368 u369 u370 u371 u372 u373 u374 u375 u376 u377 u378 u379 u380 u381 : Value} :
    Code.wp Tryd.prog (tailN 10 ((Tryd.f17.body).getD .skip)) (bodyPost Tryd.prog Tryd.f17 (fun e w' => e = .returned (.bool true) ∧ Upd w w' (anyB vI vC vW))) ⟨#[.pointer (some ⟨X, 0, none⟩), u1, .bool false, u3, u4, u5, u6, u7, u8, .slice AxI ysI.length cxI, .slice AxC ysC.length cxC, .slice AxW ysW.length cxW, u12, u13, u14, u15, u16, u17, u18, u19, u20, u21, u22, u23, u24, u25, u26, u27, u28, u29, u30, u31, u32, u33, u34, u35, u36, u37, u38, u39, u40, u41, u42, u43, u44, u45, u46, u47, u48, u49, u50, u51, u52, u53, u54, u55, u56, u57, u58, u59, u60, u61, u62, u63, u64, u65, u66, u67, u68, u69, u70, u71, u72, u73, u74, u75, u76, u77, u78, u79, u80, u81, u82, u83, u84, u85, u86, u87, u88, u89, u90, u91, u92, u93, u94, u95, u96, u97, u98, u99, u100, u101, u102, u103, u104, u105, u106, u107, u108, u109, u110, u111, u112, u113, u114, u115, u116, u117, u118, u119, u120, u121, u122, u123, u124, u125, u126, u127, u128, u129, u130, u131, u132, u133, u134, u135, u136, u137, u138, u139, u140, u141, u142, u143, u144, u145, u146, u147, u148, u149, u150, u151, u152, u153, u154, u155, u156, u157, u158, u159, u160, u161, u162, u163, u164, u165, u166, u167, u168, u169, u170, u171, u172, u173, u174, u175, u176, u177, u178, u179, u180, u181, u182, u183, u184, u185, u186, u187, u188, u189, u190, u191, u192, u193, u194, u195, u196, u197, u198, u199, u200, u201, u202, u203, u204, u205, u206, u207, u208, u209, u210, u211, u212, u213, u214, u215, u216, u217, u218, u219, u220, u221, u222, u223, u224, u225, u226, u227, u228, u229, u230, u231, u232, u233, u234, u235, u236, u237, u238, u239, u240, u241, u242, u243, u244, u245, u246, u247, u248, u249, u250, u251, u252, u253, u254, u255, u256, u257, u258, u259, u260, u261, u262, u263, u264, u265, u266, u267, u268, u269, u270, u271, u272, u273, u274, u275, u276, u277, u278, u279, u280, u281, u282, u283, u284, u285, u286, u287, u288, u289, u290, u291, u292, u293, u294, u295, u296, u297, u298, u299, u300, u301, u302, u303, u304, u305, u306, u307, u308, u309, u310, u311, u312, u313, u314, u315, u316, u317, u318, u319, u320, u321, u322, u323, u324, u325, u326, u327, u328, u329, u330, u331, u332, u333, u334, u335, u336, u337, u338, u339, u340, u341, u342, u343, u344, u345, u346, u347, u348, u349, u350, u351, u352, u353, u354, u355, u356, u357, u358, u359, u360, u361, u362, u363, u364, u365, u366, u367, u368, u369, u370, u371, u372, u373, u374, u375, u376, u377, u378, u379, u380, u381], []⟩ w6 := by
  dsimp only [tailN, Tryd.f17, Option.getD_some]
  have lI := h.lI
  have lC := h.lC
  have lW := h.lW
  obtain ⟨nI, hnI⟩ : ∃ n, n = vI.length := ⟨_, rfl⟩
  obtain ⟨nC, hnC⟩ : ∃ n, n = vC.length := ⟨_, rfl⟩
  obtain ⟨nW, hnW⟩ : ∃ n, n = vW.length := ⟨_, rfl⟩
  have NI := Lib.hid hnI
  have NC := Lib.hid hnC
  have NW := Lib.hid hnW
  rw [← hnI] at lI
  rw [← hnC] at lC
  rw [← hnW] at lW
  clear hnI hnC hnW
  have TI := Lib.hid h.tI
  have TC := Lib.hid h.tC
  have TW := Lib.hid h.tW
  have YNI : Hid (ysI.length = nI) := h.tI.len.trans NI.out.symm
  have YNC : Hid (ysC.length = nC) := h.tC.len.trans NC.out.symm
  have YNW : Hid (ysW.length = nW) := h.tW.len.trans NW.out.symm
  have FLI := Lib.hid h.fI
  have FLC := Lib.hid h.fC
  have FLW := Lib.hid h.fW
  have UP := Lib.hid h.up
  clear h
  rw [YNI.out, YNC.out, YNW.out]
  go_wp2_with (fail)
  go_loopw [21] (fun iv wr => ∃ i : Nat, i ≤ nI ∧ iv = .int .i64 (i : Int) ∧ w6 = wr) (fun iv _ => nI - (intOf iv).toNat)
  case atStart => exact ⟨0, Nat.zero_le _, rfl, rfl⟩
  case round =>
    obtain ⟨i, hi, rfl, hwe⟩ := hrel
    subst hwe
    by_cases hlt : i < nI
    · have hil : i < vI.length := by rw [← NI.out]; exact hlt
      have hiy : i < ysI.length := by rw [YNI.out]; exact hlt
      have x0 := FLI.out.cell
      obtain ⟨bf, of, rfl, x1⟩ := FLI.out.at_ i hil
      obtain ⟨gq, eq, x2⟩ := TI.out.row i hiy
      cases eq
      obtain ⟨d1, d2, d3, d4⟩ := TI.out.done i hiy hil
      obtain ⟨v, hvv⟩ : ∃ v, v = vI[i] := ⟨_, rfl⟩
      obtain ⟨y, hyy⟩ : ∃ y, y = ysI[i] := ⟨_, rfl⟩
      rw [← hvv] at d1 d3 d4 x1
      rw [← hyy] at d2 d3 x2
      obtain ⟨Ai, ci, hv⟩ := d1.isl
      obtain ⟨Ay, cy, hy⟩ := d2.isl
      obtain ⟨ni, hni⟩ : ∃ ni, ni = vlen v := ⟨_, rfl⟩
      obtain ⟨ny, hny⟩ : ∃ ny, ny = vlen y := ⟨_, rfl⟩
      rw [← hni] at hv d3 d4
      rw [← hny] at hy d3
      have HNI := Lib.hid hni
      have HNY := Lib.hid hny
      have HV := Lib.hid hv
      have HY := Lib.hid hy
      rw [hv] at x1
      rw [hy] at x2
      rw [← NI.out] at x0
      have D1 := Lib.hid d1
      have D2 := Lib.hid d2
      have hin : (i : Int) < (nI : Int) := by omega
      have wi : IntKind.i64.wrap (1000 + (i : Int)) = 1000 + (i : Int) := by simp [IntKind.wrap, IntKind.bits, IntKind.signed]; omega
      obtain ⟨mi, hmi⟩ : ∃ mi, mi = m16 i := ⟨_, rfl⟩
      have HMI := Lib.hid hmi
      have wm : IntKind.u16.wrap (1000 + (i : Int)) = mi := hmi.symm
      have MK : Hid ((mkI i)[1]? = some (.int .i64 (1000 + (i : Int)))) := rfl
      clear hv hy hvv hyy hni hny hmi d1 d2
      go_wp2_with (fail)
      go_loopw [22] (fun kv wr6 => ∃ k : Nat, k ≤ ny ∧ kv = .int .i64 (k : Int) ∧ w6 = wr6) (fun kv _ => ny - (intOf kv).toNat)
      case atStart => exact ⟨0, Nat.zero_le _, rfl, rfl⟩
      case round =>
        obtain ⟨k, hk, rfl, hwe⟩ := hrel
        subst hwe
        by_cases hlk : k < ny
        · have hkn : (k : Int) < (ny : Int) := by omega
          obtain ⟨gy, cy2, e1, c0⟩ := D2.out.at_ (t := k * 5 + 1) (q := 1) (by rw [← HNY.out]; omega) (by omega) MK.out
          rw [HY.out] at e1
          have e2 : Ay = some ⟨gy, 0, none⟩ := by injection e1
          subst e2
          clear e1
          by_cases hlo : k < ni
          · obtain ⟨gv, cv2, e1, c1⟩ := D1.out.at_ (t := k * 5 + 1) (q := 1) (by rw [← HNI.out]; omega) (by omega) MK.out
            rw [HV.out] at e1
            have e2 : Ai = some ⟨gv, 0, none⟩ := by injection e1
            subst e2
            clear e1
            have hko : (k : Int) < (ni : Int) := by omega
            go_wp2_with (fail)
            go_roundw
            case rel => exact ⟨k + 1, hlk, by go_num, by first | rfl | trivial⟩
            case measure => first | (simp [intOf]; done) | (simp [intOf]; omega)
          · have hko : ¬ (k : Int) < (ni : Int) := by omega
            go_wp2_with (fail)
            go_roundw
            case rel => exact ⟨k + 1, hlk, by go_num, by first | rfl | trivial⟩
            case measure => first | (simp [intOf]; done) | (simp [intOf]; omega)
        · have hkn : ¬ (k : Int) < (ny : Int) := by omega
          go_wp2_with (fail)
          go_roundw
          case rel => exact ⟨i + 1, hlt, by go_num, by first | rfl | trivial⟩
          case measure => first | (simp [intOf]; done) | (simp [intOf]; omega)
    · have hin : ¬ (i : Int) < (nI : Int) := by omega
      go_wp2_with (fail)
      go_loopw [23] (fun iv wr => ∃ i : Nat, i ≤ nC ∧ iv = .int .i64 (i : Int) ∧ w6 = wr) (fun iv _ => nC - (intOf iv).toNat)
      case atStart => exact ⟨0, Nat.zero_le _, rfl, rfl⟩
      case round =>
        obtain ⟨i, hi, rfl, hwe⟩ := hrel
        subst hwe
        by_cases hlt : i < nC
        · have hil : i < vC.length := by rw [← NC.out]; exact hlt
          have hiy : i < ysC.length := by rw [YNC.out]; exact hlt
          have x0 := FLC.out.cell
          obtain ⟨bf, of, rfl, x1⟩ := FLC.out.at_ i hil
          obtain ⟨gq, eq, x2⟩ := TC.out.row i hiy
          cases eq
          obtain ⟨d1, d2, d3, d4⟩ := TC.out.done i hiy hil
          obtain ⟨v, hvv⟩ : ∃ v, v = vC[i] := ⟨_, rfl⟩
          obtain ⟨y, hyy⟩ : ∃ y, y = ysC[i] := ⟨_, rfl⟩
          rw [← hvv] at d1 d3 d4 x1
          rw [← hyy] at d2 d3 x2
          obtain ⟨Ai, ci, hv⟩ := d1.isl
          obtain ⟨Ay, cy, hy⟩ := d2.isl
          obtain ⟨ni, hni⟩ : ∃ ni, ni = vlen v := ⟨_, rfl⟩
          obtain ⟨ny, hny⟩ : ∃ ny, ny = vlen y := ⟨_, rfl⟩
          rw [← hni] at hv d3 d4
          rw [← hny] at hy d3
          have HNI := Lib.hid hni
          have HNY := Lib.hid hny
          have HV := Lib.hid hv
          have HY := Lib.hid hy
          rw [hv] at x1
          rw [hy] at x2
          rw [← NC.out] at x0
          have D1 := Lib.hid d1
          have D2 := Lib.hid d2
          have hin : (i : Int) < (nC : Int) := by omega
          have wi : IntKind.i64.wrap (1000 + (i : Int)) = 1000 + (i : Int) := by simp [IntKind.wrap, IntKind.bits, IntKind.signed]; omega
          obtain ⟨mi, hmi⟩ : ∃ mi, mi = m16 i := ⟨_, rfl⟩
          have HMI := Lib.hid hmi
          have wm : IntKind.u16.wrap (1000 + (i : Int)) = mi := hmi.symm
          have MK : Hid ((mkC i)[0]? = some (.int .u16 mi)) := by rw [HMI.out]; rfl
          clear hv hy hvv hyy hni hny hmi d1 d2
          go_wp2_with (fail)
          go_loopw [24] (fun kv wr6 => ∃ k : Nat, k ≤ ny ∧ kv = .int .i64 (k : Int) ∧ w6 = wr6) (fun kv _ => ny - (intOf kv).toNat)
          case atStart => exact ⟨0, Nat.zero_le _, rfl, rfl⟩
          case round =>
            obtain ⟨k, hk, rfl, hwe⟩ := hrel
            subst hwe
            by_cases hlk : k < ny
            · have hkn : (k : Int) < (ny : Int) := by omega
              obtain ⟨gy, cy2, e1, c0⟩ := D2.out.at_ (t := k) (q := 0) (by rw [← HNY.out]; omega) (by omega) MK.out
              rw [HY.out] at e1
              have e2 : Ay = some ⟨gy, 0, none⟩ := by injection e1
              subst e2
              clear e1
              by_cases hlo : k < ni
              · obtain ⟨gv, cv2, e1, c1⟩ := D1.out.at_ (t := k) (q := 0) (by rw [← HNI.out]; omega) (by omega) MK.out
                rw [HV.out] at e1
                have e2 : Ai = some ⟨gv, 0, none⟩ := by injection e1
                subst e2
                clear e1
                have hko : (k : Int) < (ni : Int) := by omega
                go_wp2_with (fail)
                go_roundw
                case rel => exact ⟨k + 1, hlk, by go_num, by first | rfl | trivial⟩
                case measure => first | (simp [intOf]; done) | (simp [intOf]; omega)
              · have hko : ¬ (k : Int) < (ni : Int) := by omega
                go_wp2_with (fail)
                go_roundw
                case rel => exact ⟨k + 1, hlk, by go_num, by first | rfl | trivial⟩
                case measure => first | (simp [intOf]; done) | (simp [intOf]; omega)
            · have hkn : ¬ (k : Int) < (ny : Int) := by omega
              go_wp2_with (fail)
              go_roundw
              case rel => exact ⟨i + 1, hlt, by go_num, by first | rfl | trivial⟩
              case measure => first | (simp [intOf]; done) | (simp [intOf]; omega)
        · have hin : ¬ (i : Int) < (nC : Int) := by omega
          go_wp2_with (fail)
          go_loopw [25] (fun iv wr => ∃ i : Nat, i ≤ nW ∧ iv = .int .i64 (i : Int) ∧ w6 = wr) (fun iv _ => nW - (intOf iv).toNat)
          case atStart => exact ⟨0, Nat.zero_le _, rfl, rfl⟩
          case round =>
            obtain ⟨i, hi, rfl, hwe⟩ := hrel
            subst hwe
            by_cases hlt : i < nW
            · have hil : i < vW.length := by rw [← NW.out]; exact hlt
              have hiy : i < ysW.length := by rw [YNW.out]; exact hlt
              have x0 := FLW.out.cell
              obtain ⟨bf, of, rfl, x1⟩ := FLW.out.at_ i hil
              obtain ⟨gq, eq, x2⟩ := TW.out.row i hiy
              cases eq
              obtain ⟨d1, d2, d3, d4⟩ := TW.out.done i hiy hil
              obtain ⟨v, hvv⟩ : ∃ v, v = vW[i] := ⟨_, rfl⟩
              obtain ⟨y, hyy⟩ : ∃ y, y = ysW[i] := ⟨_, rfl⟩
              rw [← hvv] at d1 d3 d4 x1
              rw [← hyy] at d2 d3 x2
              obtain ⟨Ai, ci, hv⟩ := d1.isl
              obtain ⟨Ay, cy, hy⟩ := d2.isl
              obtain ⟨ni, hni⟩ : ∃ ni, ni = vlen v := ⟨_, rfl⟩
              obtain ⟨ny, hny⟩ : ∃ ny, ny = vlen y := ⟨_, rfl⟩
              rw [← hni] at hv d3 d4
              rw [← hny] at hy d3
              have HNI := Lib.hid hni
              have HNY := Lib.hid hny
              have HV := Lib.hid hv
              have HY := Lib.hid hy
              rw [hv] at x1
              rw [hy] at x2
              rw [← NW.out] at x0
              have D1 := Lib.hid d1
              have D2 := Lib.hid d2
              have hin : (i : Int) < (nW : Int) := by omega
              have wi : IntKind.i64.wrap (1000 + (i : Int)) = 1000 + (i : Int) := by simp [IntKind.wrap, IntKind.bits, IntKind.signed]; omega
              obtain ⟨mi, hmi⟩ : ∃ mi, mi = m16 i := ⟨_, rfl⟩
              have HMI := Lib.hid hmi
              have wm : IntKind.u16.wrap (1000 + (i : Int)) = mi := hmi.symm
              have MK : Hid ((mkW i)[0]? = some (.int .u16 mi)) := by rw [HMI.out]; rfl
              clear hv hy hvv hyy hni hny hmi d1 d2
              go_wp2_with (fail)
              go_loopw [26] (fun kv wr6 => ∃ k : Nat, k ≤ ny ∧ kv = .int .i64 (k : Int) ∧ w6 = wr6) (fun kv _ => ny - (intOf kv).toNat)
              case atStart => exact ⟨0, Nat.zero_le _, rfl, rfl⟩
              case round =>
                obtain ⟨k, hk, rfl, hwe⟩ := hrel
                subst hwe
                by_cases hlk : k < ny
                · have hkn : (k : Int) < (ny : Int) := by omega
                  obtain ⟨gy, cy2, e1, c0⟩ := D2.out.at_ (t := k * 3) (q := 0) (by rw [← HNY.out]; omega) (by omega) MK.out
                  rw [HY.out] at e1
                  have e2 : Ay = some ⟨gy, 0, none⟩ := by injection e1
                  subst e2
                  clear e1
                  by_cases hlo : k < ni
                  · obtain ⟨gv, cv2, e1, c1⟩ := D1.out.at_ (t := k * 3) (q := 0) (by rw [← HNI.out]; omega) (by omega) MK.out
                    rw [HV.out] at e1
                    have e2 : Ai = some ⟨gv, 0, none⟩ := by injection e1
                    subst e2
                    clear e1
                    have hko : (k : Int) < (ni : Int) := by omega
                    go_wp2_with (fail)
                    go_roundw
                    case rel => exact ⟨k + 1, hlk, by go_num, by first | rfl | trivial⟩
                    case measure => first | (simp [intOf]; done) | (simp [intOf]; omega)
                  · have hko : ¬ (k : Int) < (ni : Int) := by omega
                    go_wp2_with (fail)
                    go_roundw
                    case rel => exact ⟨k + 1, hlk, by go_num, by first | rfl | trivial⟩
                    case measure => first | (simp [intOf]; done) | (simp [intOf]; omega)
                · have hkn : ¬ (k : Int) < (ny : Int) := by omega
                  go_wp2_with (fail)
                  go_roundw
                  case rel => exact ⟨i + 1, hlt, by go_num, by first | rfl | trivial⟩
                  case measure => first | (simp [intOf]; done) | (simp [intOf]; omega)
            · have hin : ¬ (i : Int) < (nW : Int) := by omega
              go_wp2_with (fail)
              go_ret
              exact ⟨rfl, UP.out⟩
set_option maxRecDepth 100000 in
set_option maxHeartbeats 8000000 in
theorem apartB (w w6 : World) (base X : Nat) (vI vC vW : List Value) (AI AC AW : Option Addr) (cI cC cW : Nat) (h0 : BookAt w base X vI vC vW AI AC AW cI cC cW) (hb : base ≤ w.heap.size) (h : ApA w w6 base X vI vC vW AI AC AW cI cC cW) {u1 u3 u4 u5 u6 u7 u8 u9 u10 u11 u12 u13 u14 u15 u16 u17 u18 u19 u20 u21 u22 u23 u24 u25 u26 u27 u28 u29 u30 u31 u32 u33 u34 u35 u36 u37 u38 u39 u40 u41 u42 u43 u44 u45 u46 u47 u48 u49 u50 u51 u52 u53 u54 u55 u56 u57 u58 u59 u60 u61 u62 u63 u64 u65 u66 u67 u68 u69 u70 u71 u72 u73 u74 u75 u76 u77 u78 u79 u80 u81 u82 u83 u84 u85 u86 u87 u88 u89 u90 u91 u92 u93 u94 u95 u96 u97 u98 u99 u100 u101 u102 u103 u104 u105 u106 u107 u108 u109 u110 u111 u112 u113 u114 u115 u116 u117 u118 u119 u120 u121 u122 u123 u124 u125 u126 u127 u128 u129 u130 u131 u132 u133 u134 u135 u136 u137 u138 u139 u140 u141 u142 u143 u144 u145 u146 u147 u148 u149 u150 u151 u152 u153 u154 u155 u156 u157 u158 u159 u160 u161 u162 u163 u164 u165 u166 u167 u168 u169 u170 u171 u172 u173 u174 u175 u176 u177 u178 u179 u180 u181 u182 u183 u184 u185 u186 u187 u188 u189 u190 u191 u192 u193 u194 u195 u196 u197 u198 u199 u200 u201 u202 u203 u204 u205 u206 u207 u208 u209 u210 u211 u212 u213 u214 u215 u216 u217 u218 u219 u220 u221 u222 u223 u224 u225 u226 u227 u228 u229 u230 u231 u232 u233 u234 u235 u236 u237 u238 u239 u240 u241 u242 u243 u244 u245 u246 u247 u248 u249 u250 u251 u252 u253 u254 u255 u256 u257 u258 u259 u260 u261 u262 u263 u264 u265 u266 u267 u268 u269 u270 u271 u272 u273 u274 u275 u276 u277 u278 u279 u280 u281 u282 u283 u284 u285 u286 u287 u288 u289 u290 u291 u292 u293 u294 u295 u296 u297 u298 u299 u300 u301 u302 u303 u304 u305 u306 u307 u308 u309 u310 u311 u312 u313 u314 u315 u316 u317 u318 u319 u320 u321 u322 u323 u324 u325 u326 u327 u328 u329 u330 u331 u332 u333 u334 u335 u336 u337 u338 u339 u340 u341 u342 u343 u344 u345 u346 u347 u348 u349 u350 u351 u352 u353 u354 u355 u356 u357 u358 u359 u360 u361 u362 u363 u364 u365 u366 u367 u368 u369 u370 u371 u372 u373 u374 u375 u376 u377 u378 u379 u380 u381 : Value} :
    Code.wp Tryd.prog (tailN 4 ((Tryd.f17.body).getD .skip)) (bodyPost Tryd.prog Tryd.f17 (fun e w' => e = .returned (.bool true) ∧ Upd w w' (anyB vI vC vW))) ⟨#[.pointer (some ⟨X, 0, none⟩), u1, .bool false, u3, u4, u5, u6, u7, u8, u9, u10, u11, u12, u13, u14, u15, u16, u17, u18, u19, u20, u21, u22, u23, u24, u25, u26, u27, u28, u29, u30, u31, u32, u33, u34, u35, u36, u37, u38, u39, u40, u41, u42, u43, u44, u45, u46, u47, u48, u49, u50, u51, u52, u53, u54, u55, u56, u57, u58, u59, u60, u61, u62, u63, u64, u65, u66, u67, u68, u69, u70, u71, u72, u73, u74, u75, u76, u77, u78, u79, u80, u81, u82, u83, u84, u85, u86, u87, u88, u89, u90, u91, u92, u93, u94, u95, u96, u97, u98, u99, u100, u101, u102, u103, u104, u105, u106, u107, u108, u109, u110, u111, u112, u113, u114, u115, u116, u117, u118, u119, u120, u121, u122, u123, u124, u125, u126, u127, u128, u129, u130, u131, u132, u133, u134, u135, u136, u137, u138, u139, u140, u141, u142, u143, u144, u145, u146, u147, u148, u149, u150, u151, u152, u153, u154, u155, u156, u157, u158, u159, u160, u161, u162, u163, u164, u165, u166, u167, u168, u169, u170, u171, u172, u173, u174, u175, u176, u177, u178, u179, u180, u181, u182, u183, u184, u185, u186, u187, u188, u189, u190, u191, u192, u193, u194, u195, u196, u197, u198, u199, u200, u201, u202, u203, u204, u205, u206, u207, u208, u209, u210, u211, u212, u213, u214, u215, u216, u217, u218, u219, u220, u221, u222, u223, u224, u225, u226, u227, u228, u229, u230, u231, u232, u233, u234, u235, u236, u237, u238, u239, u240, u241, u242, u243, u244, u245, u246, u247, u248, u249, u250, u251, u252, u253, u254, u255, u256, u257, u258, u259, u260, u261, u262, u263, u264, u265, u266, u267, u268, u269, u270, u271, u272, u273, u274, u275, u276, u277, u278, u279, u280, u281, u282, u283, u284, u285, u286, u287, u288, u289, u290, u291, u292, u293, u294, u295, u296, u297, u298, u299, u300, u301, u302, u303, u304, u305, u306, u307, u308, u309, u310, u311, u312, u313, u314, u315, u316, u317, u318, u319, u320, u321, u322, u323, u324, u325, u326, u327, u328, u329, u330, u331, u332, u333, u334, u335, u336, u337, u338, u339, u340, u341, u342, u343, u344, u345, u346, u347, u348, u349, u350, u351, u352, u353, u354, u355, u356, u357, u358, u359, u360, u361, u362, u363, u364, u365, u366, u367, u368, u369, u370, u371, u372, u373, u374, u375, u376, u377, u378, u379, u380, u381], []⟩ w6 := by
  dsimp only [tailN, Tryd.f17, Option.getD_some]
  have lI := h0.lI
  have lC := h0.lC
  have lW := h0.lW
  obtain ⟨nI, hnI⟩ : ∃ n, n = vI.length := ⟨_, rfl⟩
  obtain ⟨nC, hnC⟩ : ∃ n, n = vC.length := ⟨_, rfl⟩
  obtain ⟨nW, hnW⟩ : ∃ n, n = vW.length := ⟨_, rfl⟩
  have NI := Lib.hid hnI
  have NC := Lib.hid hnC
  have NW := Lib.hid hnW
  rw [← hnI] at lI
  rw [← hnC] at lC
  rw [← hnW] at lW
  clear hnI hnC hnW
  have HB := Lib.hid h0
  have XI := Lib.hid (h0.fr X (.inl rfl))
  have FAI := Lib.hid (fun ad (e : AI = some ad) => h0.fr ad.block (.inr (.inl ⟨ad, e, rfl⟩)))
  have FAC := Lib.hid (fun ad (e : AC = some ad) => h0.fr ad.block (.inr (.inr (.inl ⟨ad, e, rfl⟩))))
  have FAW := Lib.hid (fun ad (e : AW = some ad) => h0.fr ad.block (.inr (.inr (.inr ⟨ad, e, rfl⟩))))
  have BLI := Lib.hid (bks_lt h0.gI)
  have BLC := Lib.hid (bks_lt h0.gC)
  have BLW := Lib.hid (bks_lt h0.gW)
  obtain ⟨wAW, hwa⟩ : ∃ W, W = w6 := ⟨_, rfl⟩
  subst hwa
  have UP3 := Lib.hid h.up
  have FLWI := Lib.hid h.fI
  have FLWC := Lib.hid h.fC
  have FLWW := Lib.hid h.fW
  have DNI := Lib.hid h.dI
  have DNC := Lib.hid h.dC
  have DNW := Lib.hid h.dW
  have SZ : Hid (w.heap.size ≤ wAW.heap.size) := UP3.out.size
  have PBI : Hid (PB shI mkI wAW wAW base 60 5 50 12 vI [] (.slice none 0 0) 0) := PB.start DNI.out
  have hbw : base ≤ wAW.heap.size := Nat.le_trans hb SZ.out
  have BWI : Hid (∀ b ∈ bks vI, b < wAW.heap.size) := fun b hb2 => Nat.lt_of_lt_of_le (BLI.out b hb2).1 SZ.out
  have BWC : Hid (∀ b ∈ bks vC, b < wAW.heap.size) := fun b hb2 => Nat.lt_of_lt_of_le (BLC.out b hb2).1 SZ.out
  have BWW : Hid (∀ b ∈ bks vW, b < wAW.heap.size) := fun b hb2 => Nat.lt_of_lt_of_le (BLW.out b hb2).1 SZ.out
  clear h h0
  go_wp2_with (fail)
  obtain ⟨i1, hi1, hp0, hp1, hp2⟩ := info_parts infoInstr
  obtain ⟨i2, hi2, hr0, hr1, hr2⟩ := info_parts infoLI
  go_loopw [9, 12] (fun xv iv wr => ∃ ys : List Value, ys.length ≤ nI ∧ iv = .int .i64 (ys.length : Int) ∧ Hid (PB shI mkI wAW wr base 60 5 50 12 vI ys xv ys.length)) (fun _ iv _ => nI - (intOf iv).toNat)
  case atStart => exact ⟨[], Nat.zero_le _, rfl, PBI⟩
  case round =>
    obtain ⟨ys, hi, rfl, hP⟩ := hrel
    obtain ⟨i, hii⟩ : ∃ i, i = ys.length := ⟨_, rfl⟩
    have HI := Lib.hid hii
    rw [← hii] at hi ⊢
    clear hii
    obtain ⟨AxI, cxI, hx⟩ := ownsRow_slice hP.out.xrow
    rw [← HI.out] at hx
    subst hx
    have FL := Lib.hid (FLWI.out.upd hP.out.upd XI.out.1 (fun ad e => (FAI.out ad e).1))
    have x0 := FL.out.cell
    rw [← NI.out] at x0
    by_cases hlt : i < nI
    · have hil : i < vI.length := by rw [← NI.out]; exact hlt
      have hil' : ys.length < vI.length := by rw [← HI.out]; exact hil
      obtain ⟨e1, e2⟩ := hP.out.enter hil'
      obtain ⟨bf, of, rfl, x1⟩ := FL.out.at_ i hil
      have sm := (hP.out.todo ys.length hil' (Nat.le_refl _)).small
      obtain ⟨v, hvv⟩ : ∃ v, v = vI[i] := ⟨_, rfl⟩
      have HVV := Lib.hid hvv
      have evv : vI[ys.length] = v := by rw [hvv]; simp only [HI.out]
      have EVV := Lib.hid evv
      rw [evv] at sm e2
      rw [← hvv] at x1
      obtain ⟨Ai, ci, hv⟩ := e2.old.isl
      obtain ⟨ni, hni⟩ : ∃ ni, ni = vlen v := ⟨_, rfl⟩
      rw [← hni] at hv sm
      have HNI := Lib.hid hni
      rw [hv] at x1
      have HV := Lib.hid hv
      rw [hv, ← HI.out] at e2
      rw [← HI.out] at e1
      have ST := Lib.hid (And.intro e1 e2)
      have hin : (i : Int) < (nI : Int) := by omega
      have wi : IntKind.i64.wrap (1000 + (i : Int)) = 1000 + (i : Int) := by simp [IntKind.wrap, IntKind.bits, IntKind.signed]; omega
      obtain ⟨mi, hmi⟩ : ∃ mi, mi = m16 i := ⟨_, rfl⟩
      have HMI := Lib.hid hmi
      have wm : IntKind.u16.wrap (1000 + (i : Int)) = mi := hmi.symm
      have hsz0 := hP.out.upd.size
      clear e1 e2 FL hv hvv hni hmi hP evv
      go_wp2_with (fail)
      go_loopw [13, 14] (fun yv kv w6 => ∃ k : Nat, k ≤ 12 ∧ kv = .int .i64 (k : Int) ∧ Hid (PB shI mkI wAW w6 base 60 5 50 12 vI ys (Value.slice AxI i cxI) (i + 1) ∧ PG shI wAW w6 base 60 5 (mkI i) vI ys (Value.slice AxI i cxI) (.slice Ai ni ci) yv k)) (fun _ kv _ => 12 - (intOf kv).toNat)
      case atStart => exact ⟨0, Nat.zero_le _, rfl, ST⟩
      case round =>
        clear x0 x1 ST
        obtain ⟨k, hk, rfl, hM⟩ := hrel
        have hsz := hM.out.1.upd.size
        obtain ⟨xs, r1, r2⟩ := hM.out.2.new
        obtain ⟨Ay, cy, hy⟩ := ownsRow_slice r1
        have ly := hM.out.2.len
        have ly0 : vlen (Value.slice Ai ni ci) = ni := rfl
        rw [ly0] at ly
        obtain ⟨ny, hny⟩ : ∃ ny, ny = vlen u13 := ⟨_, rfl⟩
        rw [← hny] at hy ly r1 r2
        subst hy
        have hny2 : ny ≤ 1000080 := by omega
        have LY := Lib.hid ly
        clear hny ly
        have RX := Lib.hid (And.intro r1 r2)
        by_cases hlk : k < 12
        · have hkn : (k : Int) < 12 := by omega
          have NX : Hid (∀ (g4 cap4 : Nat) (W2 : World), W2.ownsRow base 60 5 (.slice (some ⟨g4, 0, none⟩) (ny + 1) cap4) (ny + 1) (xs ++ [.int .u16 0, .int .i64 (1000 + (i : Int)), .int .u16 0, .int .u16 0, .int .u16 0]) → (wr.alloc (.cells #[.int .u16 0, .int .i64 (1000 + (i : Int)), .int .u16 0, .int .u16 0, .int .u16 0] 60)).grownBy W2 (Value.slice Ay ny cy).ownBlock →
              ((Value.slice Ay ny cy).ownBlock = some g4 ∨ (g4 = (wr.alloc (.cells #[.int .u16 0, .int .i64 (1000 + (i : Int)), .int .u16 0, .int .u16 0, .int .u16 0] 60)).heap.size ∧ ∀ k, k < (wr.alloc (.cells #[.int .u16 0, .int .i64 (1000 + (i : Int)), .int .u16 0, .int .u16 0, .int .u16 0] 60)).heap.size → W2.heap[k]? = (wr.alloc (.cells #[.int .u16 0, .int .i64 (1000 + (i : Int)), .int .u16 0, .int .u16 0, .int .u16 0] 60)).heap[k]?)) →
              PB shI mkI wAW W2 base 60 5 50 12 vI ys (Value.slice AxI i cxI) (i + 1) ∧ PG shI wAW W2 base 60 5 (mkI i) vI ys (Value.slice AxI i cxI) (.slice Ai ni ci) (.slice (some ⟨g4, 0, none⟩) (ny + 1) cap4) (k + 1)) := fun g4 cap4 W2 ho hg hat => by
            have p1 : PB shI mkI wAW wr base 60 5 50 12 vI ys (Value.slice AxI i cxI) (ys.length + 1) := by rw [← HI.out]; exact hM.out.1
            refine ⟨?_, ?_⟩
            · have p3 := p1.other HB.out.nI BWI.out hil' (Below.alloc (Below.refl _ _) (Nat.le_refl _) _) (Upd.of_grown hg) (fun g hg2 => by
                rw [EVV.out, HV.out]
                exact hM.out.2.yb g hg2)
              rw [← HI.out] at p3
              exact p3
            · skip
              exact hM.out.2.app (ob := .cells #[.int .u16 0, .int .i64 (1000 + (i : Int)), .int .u16 0, .int .u16 0, .int .u16 0] 60) rfl (by decide) rfl p1.ysb (fun b hb2 => (ownsRow_own p1.xrow b hb2).1) hsz RX.out ho hg hat
          have hbr : base ≤ wr.heap.size := Nat.le_trans (by omega) hsz
          have RO := Lib.hid (RX.out.1.alloc (.cells #[.int .u16 0, .int .i64 (1000 + (i : Int)), .int .u16 0, .int .u16 0, .int .u16 0] 60))
          clear hM r1 r2
          go_wp2_with (first
            | (at_builtin; refine wpList_append_kept rfl _ _ 50 rfl base 60 i1 _ 5 24 Tryd.underlying50 hi1 hp0 hp1 hp2 rfl (by decide) (.slice Ay ny cy) ny xs rfl RO.out ⟨wr.heap.size, 0, none⟩ 1 1 [.int .u16 0, .int .i64 (1000 + (i : Int)), .int .u16 0, .int .u16 0, .int .u16 0] rfl rfl ?hnews0 ?hone0 (by decide) (by simp only [maxLen]; omega) (by omega) (by simp; omega) ?_; (case hnews0 => exact news5 _ (heap_alloc_at _ _)); (case hone0 => intro u hu; simp at hu; first | (rcases hu with rfl | rfl | rfl; all_goals rfl) | (rcases hu with rfl | rfl; all_goals rfl) | (rcases hu with rfl; rfl) | (subst hu; rfl)); intro g4 cap4 W2 ho hgr hat; have FN := Lib.hid (NX.out g4 cap4 W2 ho hgr hat); clear ho hgr hat))
          go_roundw
          case rel => exact ⟨k + 1, hlk, by go_num, FN⟩
          case measure => first | (simp [intOf]; done) | (simp [intOf]; omega)
        · have hke : k = 12 := by omega
          have hkn : ¬ (k : Int) < 12 := by omega
          have NX : Hid (∀ (g4 cap4 : Nat) (W2 : World), W2.ownsRow wAW.heap.size 50 1 (.slice (some ⟨g4, 0, none⟩) (i + 1) cap4) (i + 1) (ys ++ [.slice Ay ny cy]) → (wr.alloc (.cells #[.slice Ay ny cy] 50)).grownBy W2 (Value.slice AxI i cxI).ownBlock →
              ((Value.slice AxI i cxI).ownBlock = some g4 ∨ (g4 = (wr.alloc (.cells #[.slice Ay ny cy] 50)).heap.size ∧ ∀ k, k < (wr.alloc (.cells #[.slice Ay ny cy] 50)).heap.size → W2.heap[k]? = (wr.alloc (.cells #[.slice Ay ny cy] 50)).heap[k]?)) →
              PB shI mkI wAW W2 base 60 5 50 12 vI (ys ++ [.slice Ay ny cy]) (.slice (some ⟨g4, 0, none⟩) (i + 1) cap4) (i + 1)) := fun g4 cap4 W2 ho hg hat => by
            have p1 : PB shI mkI wAW wr base 60 5 50 12 vI ys (Value.slice AxI i cxI) (ys.length + 1) := by rw [← HI.out]; exact hM.out.1
            have p2 : PG shI wAW wr base 60 5 (mkI ys.length) vI ys (Value.slice AxI i cxI) vI[ys.length] (.slice Ay ny cy) 12 := by
              have p4 := hM.out.2
              rw [hke] at p4
              rw [EVV.out, HV.out, ← HI.out]
              exact p4
            have p3 := p1.push (ob := .cells #[.slice Ay ny cy] 50) hil' p2 (by rw [EVV.out, ← HNI.out]; exact sm) BWI.out (by rw [← HI.out]; exact ho) hg hat
            rw [← HI.out] at p3
            exact p3
          have RX2 : Hid ((wr.alloc (.cells #[.slice Ay ny cy] 50)).ownsRow wAW.heap.size 50 1 (Value.slice AxI i cxI) i ys) := by
            have p1 := hM.out.1.xrow
            rw [← HI.out] at p1
            exact p1.alloc _
          clear hM r1 r2
          go_wp2_with (first
            | (at_builtin; refine wpList_append_kept rfl _ _ 44 rfl wAW.heap.size 50 i2 _ 1 24 Tryd.underlying44 hi2 hr0 hr1 hr2 rfl (by decide) (Value.slice AxI i cxI) i ys rfl RX2.out ⟨wr.heap.size, 0, none⟩ 1 1 [.slice Ay ny cy] rfl rfl ?hnews3 ?hone3 (by decide) (by simp only [maxLen]; omega) (by omega) (by simp; omega) ?_; (case hnews3 => exact news1 _ (heap_alloc_at _ _)); (case hone3 => intro u hu; simp at hu; subst hu; rfl); intro g4 cap4 W2 ho hgr hat; have FN := Lib.hid (NX.out g4 cap4 W2 ho hgr hat); clear ho hgr hat))
          have HIE : Hid ((ys ++ [Value.slice Ay ny cy]).length = i + 1) := by rw [HI.out]; exact List.length_append
          go_roundw
          case rel => exact ⟨ys ++ [.slice Ay ny cy], by rw [HIE.out]; exact hlt, by rw [HIE.out]; go_num, by rw [HIE.out]; exact FN⟩
          case measure => first | (simp [intOf]; done) | (simp [intOf]; omega)
    · have hin : ¬ (i : Int) < (nI : Int) := by omega
      have YLI : Hid (ys.length = vI.length) := by
        have h1 := NI.out
        have h2 := HI.out
        show ys.length = vI.length
        omega
      have hie : nI = i := by omega
      subst hie
      have DPI := Lib.hid hP.out
      have UBI := Lib.hid hP.out.upd
      have FMII := Lib.hid (FLWI.out.upd UBI.out XI.out.1 (fun ad e => (FAI.out ad e).1))
      have FMIC := Lib.hid (FLWC.out.upd UBI.out XI.out.1 (fun ad e => (FAC.out ad e).1))
      have FMIW := Lib.hid (FLWW.out.upd UBI.out XI.out.1 (fun ad e => (FAW.out ad e).1))
      have DMC : Hid (∀ (j : Nat) (hj : j < vC.length), Mkd shC wr base 23 1 vC[j] (mkC j) (vlen vC[j] * 1)) := fun j hj => (DNC.out j hj).upd UBI.out (fun b hb2 hb => (fun h2 => HB.out.dIC b hb h2) (mem_bks hj hb2))
      replace DNC := DMC
      have BXC : Hid (∀ b ∈ bks vC, b < wr.heap.size) := fun b hb2 => Nat.lt_of_lt_of_le (BWC.out b hb2) UBI.out.size
      replace BWC := BXC
      have DMW : Hid (∀ (j : Nat) (hj : j < vW.length), Mkd shW wr base 53 3 vW[j] (mkW j) (vlen vW[j] * 3)) := fun j hj => (DNW.out j hj).upd UBI.out (fun b hb2 hb => (fun h2 => HB.out.dIW b hb h2) (mem_bks hj hb2))
      replace DNW := DMW
      have BXW : Hid (∀ b ∈ bks vW, b < wr.heap.size) := fun b hb2 => Nat.lt_of_lt_of_le (BWW.out b hb2) UBI.out.size
      replace BWW := BXW
      have PBC : Hid (PB shC mkC wr wr base 23 1 51 12 vC [] (.slice none 0 0) 0) := PB.start DNC.out
      have UP4 : Hid (Upd w wr (anyB vI vC vW)) := UP3.out.trans UBI.out (fun b _ hb => .inl hb)
      obtain ⟨ysI, hys⟩ : ∃ y, y = ys := ⟨_, rfl⟩
      subst hys
      have hbI : base ≤ wr.heap.size := Nat.le_trans (by omega) UBI.out.size
      obtain ⟨wBI, hW⟩ : ∃ W, W = wr := ⟨_, rfl⟩
      subst hW
      clear hP PBI FLWI FLWC FLWW
      go_wp2_with (fail)
      obtain ⟨i1, hi1, hp0, hp1, hp2⟩ := info_parts infoU16
      obtain ⟨i2, hi2, hr0, hr1, hr2⟩ := info_parts infoLC
      go_loopw [10, 15] (fun xv iv wr => ∃ ys : List Value, ys.length ≤ nC ∧ iv = .int .i64 (ys.length : Int) ∧ Hid (PB shC mkC wBI wr base 23 1 51 12 vC ys xv ys.length)) (fun _ iv _ => nC - (intOf iv).toNat)
      case atStart => exact ⟨[], Nat.zero_le _, rfl, PBC⟩
      case round =>
        obtain ⟨ys, hi, rfl, hP⟩ := hrel
        obtain ⟨i, hii⟩ : ∃ i, i = ys.length := ⟨_, rfl⟩
        have HI := Lib.hid hii
        rw [← hii] at hi ⊢
        clear hii
        obtain ⟨AxC, cxC, hx⟩ := ownsRow_slice hP.out.xrow
        rw [← HI.out] at hx
        subst hx
        have FL := Lib.hid (FMIC.out.upd hP.out.upd XI.out.2.1 (fun ad e => (FAC.out ad e).2.1))
        have x0 := FL.out.cell
        rw [← NC.out] at x0
        by_cases hlt : i < nC
        · have hil : i < vC.length := by rw [← NC.out]; exact hlt
          have hil' : ys.length < vC.length := by rw [← HI.out]; exact hil
          obtain ⟨e1, e2⟩ := hP.out.enter hil'
          obtain ⟨bf, of, rfl, x1⟩ := FL.out.at_ i hil
          have sm := (hP.out.todo ys.length hil' (Nat.le_refl _)).small
          obtain ⟨v, hvv⟩ : ∃ v, v = vC[i] := ⟨_, rfl⟩
          have HVV := Lib.hid hvv
          have evv : vC[ys.length] = v := by rw [hvv]; simp only [HI.out]
          have EVV := Lib.hid evv
          rw [evv] at sm e2
          rw [← hvv] at x1
          obtain ⟨Ai, ci, hv⟩ := e2.old.isl
          obtain ⟨ni, hni⟩ : ∃ ni, ni = vlen v := ⟨_, rfl⟩
          rw [← hni] at hv sm
          have HNI := Lib.hid hni
          rw [hv] at x1
          have HV := Lib.hid hv
          rw [hv, ← HI.out] at e2
          rw [← HI.out] at e1
          have ST := Lib.hid (And.intro e1 e2)
          have hin : (i : Int) < (nC : Int) := by omega
          have wi : IntKind.i64.wrap (1000 + (i : Int)) = 1000 + (i : Int) := by simp [IntKind.wrap, IntKind.bits, IntKind.signed]; omega
          obtain ⟨mi, hmi⟩ : ∃ mi, mi = m16 i := ⟨_, rfl⟩
          have HMI := Lib.hid hmi
          have wm : IntKind.u16.wrap (1000 + (i : Int)) = mi := hmi.symm
          have hsz0 := hP.out.upd.size
          clear e1 e2 FL hv hvv hni hmi hP evv
          go_wp2_with (fail)
          go_loopw [16, 17] (fun yv kv w6 => ∃ k : Nat, k ≤ 12 ∧ kv = .int .i64 (k : Int) ∧ Hid (PB shC mkC wBI w6 base 23 1 51 12 vC ys (Value.slice AxC i cxC) (i + 1) ∧ PG shC wBI w6 base 23 1 (mkC i) vC ys (Value.slice AxC i cxC) (.slice Ai ni ci) yv k)) (fun _ kv _ => 12 - (intOf kv).toNat)
          case atStart => exact ⟨0, Nat.zero_le _, rfl, ST⟩
          case round =>
            clear x0 x1 ST
            obtain ⟨k, hk, rfl, hM⟩ := hrel
            have hsz := hM.out.1.upd.size
            obtain ⟨xs, r1, r2⟩ := hM.out.2.new
            obtain ⟨Ay, cy, hy⟩ := ownsRow_slice r1
            have ly := hM.out.2.len
            have ly0 : vlen (Value.slice Ai ni ci) = ni := rfl
            rw [ly0] at ly
            obtain ⟨ny, hny⟩ : ∃ ny, ny = vlen u16 := ⟨_, rfl⟩
            rw [← hny] at hy ly r1 r2
            subst hy
            have hny2 : ny ≤ 1000080 := by omega
            have LY := Lib.hid ly
            clear hny ly
            have RX := Lib.hid (And.intro r1 r2)
            by_cases hlk : k < 12
            · have hkn : (k : Int) < 12 := by omega
              have NX : Hid (∀ (g4 cap4 : Nat) (W2 : World), W2.ownsRow base 23 1 (.slice (some ⟨g4, 0, none⟩) (ny + 1) cap4) (ny + 1) (xs ++ [.int .u16 mi]) → (wr.alloc (.cells #[.int .u16 mi] 23)).grownBy W2 (Value.slice Ay ny cy).ownBlock →
                  ((Value.slice Ay ny cy).ownBlock = some g4 ∨ (g4 = (wr.alloc (.cells #[.int .u16 mi] 23)).heap.size ∧ ∀ k, k < (wr.alloc (.cells #[.int .u16 mi] 23)).heap.size → W2.heap[k]? = (wr.alloc (.cells #[.int .u16 mi] 23)).heap[k]?)) →
                  PB shC mkC wBI W2 base 23 1 51 12 vC ys (Value.slice AxC i cxC) (i + 1) ∧ PG shC wBI W2 base 23 1 (mkC i) vC ys (Value.slice AxC i cxC) (.slice Ai ni ci) (.slice (some ⟨g4, 0, none⟩) (ny + 1) cap4) (k + 1)) := fun g4 cap4 W2 ho hg hat => by
                have p1 : PB shC mkC wBI wr base 23 1 51 12 vC ys (Value.slice AxC i cxC) (ys.length + 1) := by rw [← HI.out]; exact hM.out.1
                refine ⟨?_, ?_⟩
                · have p3 := p1.other HB.out.nC BWC.out hil' (Below.alloc (Below.refl _ _) (Nat.le_refl _) _) (Upd.of_grown hg) (fun g hg2 => by
                    rw [EVV.out, HV.out]
                    exact hM.out.2.yb g hg2)
                  rw [← HI.out] at p3
                  exact p3
                · rw [HMI.out] at ho
                  exact hM.out.2.app (ob := .cells #[.int .u16 mi] 23) rfl (by decide) rfl p1.ysb (fun b hb2 => (ownsRow_own p1.xrow b hb2).1) hsz RX.out ho hg hat
              have hbr : base ≤ wr.heap.size := Nat.le_trans (by omega) hsz
              have RO := Lib.hid (RX.out.1.alloc (.cells #[.int .u16 mi] 23))
              clear hM r1 r2
              go_wp2_with (first
                | (at_builtin; refine wpList_append_kept rfl _ _ 51 rfl base 23 i1 _ 1 2 Tryd.underlying51 hi1 hp0 hp1 hp2 rfl (by decide) (.slice Ay ny cy) ny xs rfl RO.out ⟨wr.heap.size, 0, none⟩ 1 1 [.int .u16 mi] rfl rfl ?hnews1 ?hone1 (by decide) (by simp only [maxLen]; omega) (by omega) (by simp; omega) ?_; (case hnews1 => exact news1 _ (heap_alloc_at _ _)); (case hone1 => intro u hu; simp at hu; first | (rcases hu with rfl | rfl | rfl; all_goals rfl) | (rcases hu with rfl | rfl; all_goals rfl) | (rcases hu with rfl; rfl) | (subst hu; rfl)); intro g4 cap4 W2 ho hgr hat; have FN := Lib.hid (NX.out g4 cap4 W2 ho hgr hat); clear ho hgr hat))
              go_roundw
              case rel => exact ⟨k + 1, hlk, by go_num, FN⟩
              case measure => first | (simp [intOf]; done) | (simp [intOf]; omega)
            · have hke : k = 12 := by omega
              have hkn : ¬ (k : Int) < 12 := by omega
              have NX : Hid (∀ (g4 cap4 : Nat) (W2 : World), W2.ownsRow wBI.heap.size 51 1 (.slice (some ⟨g4, 0, none⟩) (i + 1) cap4) (i + 1) (ys ++ [.slice Ay ny cy]) → (wr.alloc (.cells #[.slice Ay ny cy] 51)).grownBy W2 (Value.slice AxC i cxC).ownBlock →
                  ((Value.slice AxC i cxC).ownBlock = some g4 ∨ (g4 = (wr.alloc (.cells #[.slice Ay ny cy] 51)).heap.size ∧ ∀ k, k < (wr.alloc (.cells #[.slice Ay ny cy] 51)).heap.size → W2.heap[k]? = (wr.alloc (.cells #[.slice Ay ny cy] 51)).heap[k]?)) →
                  PB shC mkC wBI W2 base 23 1 51 12 vC (ys ++ [.slice Ay ny cy]) (.slice (some ⟨g4, 0, none⟩) (i + 1) cap4) (i + 1)) := fun g4 cap4 W2 ho hg hat => by
                have p1 : PB shC mkC wBI wr base 23 1 51 12 vC ys (Value.slice AxC i cxC) (ys.length + 1) := by rw [← HI.out]; exact hM.out.1
                have p2 : PG shC wBI wr base 23 1 (mkC ys.length) vC ys (Value.slice AxC i cxC) vC[ys.length] (.slice Ay ny cy) 12 := by
                  have p4 := hM.out.2
                  rw [hke] at p4
                  rw [EVV.out, HV.out, ← HI.out]
                  exact p4
                have p3 := p1.push (ob := .cells #[.slice Ay ny cy] 51) hil' p2 (by rw [EVV.out, ← HNI.out]; exact sm) BWC.out (by rw [← HI.out]; exact ho) hg hat
                rw [← HI.out] at p3
                exact p3
              have RX2 : Hid ((wr.alloc (.cells #[.slice Ay ny cy] 51)).ownsRow wBI.heap.size 51 1 (Value.slice AxC i cxC) i ys) := by
                have p1 := hM.out.1.xrow
                rw [← HI.out] at p1
                exact p1.alloc _
              clear hM r1 r2
              go_wp2_with (first
                | (at_builtin; refine wpList_append_kept rfl _ _ 45 rfl wBI.heap.size 51 i2 _ 1 24 Tryd.underlying45 hi2 hr0 hr1 hr2 rfl (by decide) (Value.slice AxC i cxC) i ys rfl RX2.out ⟨wr.heap.size, 0, none⟩ 1 1 [.slice Ay ny cy] rfl rfl ?hnews4 ?hone4 (by decide) (by simp only [maxLen]; omega) (by omega) (by simp; omega) ?_; (case hnews4 => exact news1 _ (heap_alloc_at _ _)); (case hone4 => intro u hu; simp at hu; subst hu; rfl); intro g4 cap4 W2 ho hgr hat; have FN := Lib.hid (NX.out g4 cap4 W2 ho hgr hat); clear ho hgr hat))
              have HIE : Hid ((ys ++ [Value.slice Ay ny cy]).length = i + 1) := by rw [HI.out]; exact List.length_append
              go_roundw
              case rel => exact ⟨ys ++ [.slice Ay ny cy], by rw [HIE.out]; exact hlt, by rw [HIE.out]; go_num, by rw [HIE.out]; exact FN⟩
              case measure => first | (simp [intOf]; done) | (simp [intOf]; omega)
        · have hin : ¬ (i : Int) < (nC : Int) := by omega
          have YLC : Hid (ys.length = vC.length) := by
            have h1 := NC.out
            have h2 := HI.out
            show ys.length = vC.length
            omega
          have hie : nC = i := by omega
          subst hie
          have DPC := Lib.hid hP.out
          have UBC := Lib.hid hP.out.upd
          have FMCI := Lib.hid (FMII.out.upd UBC.out XI.out.2.1 (fun ad e => (FAI.out ad e).2.1))
          have FMCC := Lib.hid (FMIC.out.upd UBC.out XI.out.2.1 (fun ad e => (FAC.out ad e).2.1))
          have FMCW := Lib.hid (FMIW.out.upd UBC.out XI.out.2.1 (fun ad e => (FAW.out ad e).2.1))
          have DMW : Hid (∀ (j : Nat) (hj : j < vW.length), Mkd shW wr base 53 3 vW[j] (mkW j) (vlen vW[j] * 3)) := fun j hj => (DNW.out j hj).upd UBC.out (fun b hb2 hb => (fun h2 => HB.out.dCW b hb h2) (mem_bks hj hb2))
          replace DNW := DMW
          have BXW : Hid (∀ b ∈ bks vW, b < wr.heap.size) := fun b hb2 => Nat.lt_of_lt_of_le (BWW.out b hb2) UBC.out.size
          replace BWW := BXW
          have PBW : Hid (PB shW mkW wr wr base 53 3 30 80 vW [] (.slice none 0 0) 0) := PB.start DNW.out
          have UP5 : Hid (Upd w wr (anyB vI vC vW)) := UP4.out.trans UBC.out (fun b _ hb => .inr (.inl hb))
          obtain ⟨ysC, hys⟩ : ∃ y, y = ys := ⟨_, rfl⟩
          subst hys
          have hbC : base ≤ wr.heap.size := Nat.le_trans (by omega) UBC.out.size
          obtain ⟨wBC, hW⟩ : ∃ W, W = wr := ⟨_, rfl⟩
          subst hW
          clear hP PBC FMII FMIC FMIW
          go_upto_block 20 with fail
          go_cut [9, 10, 11] from 27 (fun xI xC xW wx => ∃ ysI ysC ysW AxI AxC AxW cxI cxC cxW, xI = .slice AxI ysI.length cxI ∧ xC = .slice AxC ysC.length cxC ∧ xW = .slice AxW ysW.length cxW ∧ Hid (ApB w wx X vI vC vW AI AC AW cI cC cW ysI ysC ysW AxI AxC AxW cxI cxC cxW))
          case rest =>
            obtain ⟨ysI, ysC, ysW, AxI, AxC, AxW, cxI, cxC, cxW, rfl, rfl, rfl, HC⟩ := hcut
            go_step
            exact apartC w wc base X vI vC vW AI AC AW cI cC cW ysI ysC ysW AxI AxC AxW cxI cxC cxW HC.out
          case first =>
            go_wp2_with (fail)
            obtain ⟨i1, hi1, hp0, hp1, hp2⟩ := info_parts infoW'
            obtain ⟨i2, hi2, hr0, hr1, hr2⟩ := info_parts infoLW
            go_loopw [11, 18] (fun xv iv wr => ∃ ys : List Value, ys.length ≤ nW ∧ iv = .int .i64 (ys.length : Int) ∧ Hid (PB shW mkW wBC wr base 53 3 30 80 vW ys xv ys.length)) (fun _ iv _ => nW - (intOf iv).toNat)
            case atStart => exact ⟨[], Nat.zero_le _, rfl, PBW⟩
            case round =>
              obtain ⟨ys, hi, rfl, hP⟩ := hrel
              obtain ⟨i, hii⟩ : ∃ i, i = ys.length := ⟨_, rfl⟩
              have HI := Lib.hid hii
              rw [← hii] at hi ⊢
              clear hii
              obtain ⟨AxW, cxW, hx⟩ := ownsRow_slice hP.out.xrow
              rw [← HI.out] at hx
              subst hx
              have FL := Lib.hid (FMCW.out.upd hP.out.upd XI.out.2.2 (fun ad e => (FAW.out ad e).2.2))
              have x0 := FL.out.cell
              rw [← NW.out] at x0
              by_cases hlt : i < nW
              · have hil : i < vW.length := by rw [← NW.out]; exact hlt
                have hil' : ys.length < vW.length := by rw [← HI.out]; exact hil
                obtain ⟨e1, e2⟩ := hP.out.enter hil'
                obtain ⟨bf, of, rfl, x1⟩ := FL.out.at_ i hil
                have sm := (hP.out.todo ys.length hil' (Nat.le_refl _)).small
                obtain ⟨v, hvv⟩ : ∃ v, v = vW[i] := ⟨_, rfl⟩
                have HVV := Lib.hid hvv
                have evv : vW[ys.length] = v := by rw [hvv]; simp only [HI.out]
                have EVV := Lib.hid evv
                rw [evv] at sm e2
                rw [← hvv] at x1
                obtain ⟨Ai, ci, hv⟩ := e2.old.isl
                obtain ⟨ni, hni⟩ : ∃ ni, ni = vlen v := ⟨_, rfl⟩
                rw [← hni] at hv sm
                have HNI := Lib.hid hni
                rw [hv] at x1
                have HV := Lib.hid hv
                rw [hv, ← HI.out] at e2
                rw [← HI.out] at e1
                have ST := Lib.hid (And.intro e1 e2)
                have hin : (i : Int) < (nW : Int) := by omega
                have wi : IntKind.i64.wrap (1000 + (i : Int)) = 1000 + (i : Int) := by simp [IntKind.wrap, IntKind.bits, IntKind.signed]; omega
                obtain ⟨mi, hmi⟩ : ∃ mi, mi = m16 i := ⟨_, rfl⟩
                have HMI := Lib.hid hmi
                have wm : IntKind.u16.wrap (1000 + (i : Int)) = mi := hmi.symm
                have hsz0 := hP.out.upd.size
                clear e1 e2 FL hv hvv hni hmi hP evv
                go_wp2_with (fail)
                go_loopw [19, 20] (fun yv kv w6 => ∃ k : Nat, k ≤ 80 ∧ kv = .int .i64 (k : Int) ∧ Hid (PB shW mkW wBC w6 base 53 3 30 80 vW ys (Value.slice AxW i cxW) (i + 1) ∧ PG shW wBC w6 base 53 3 (mkW i) vW ys (Value.slice AxW i cxW) (.slice Ai ni ci) yv k)) (fun _ kv _ => 80 - (intOf kv).toNat)
                case atStart => exact ⟨0, Nat.zero_le _, rfl, ST⟩
                case round =>
                  clear x0 x1 ST
                  obtain ⟨k, hk, rfl, hM⟩ := hrel
                  have hsz := hM.out.1.upd.size
                  obtain ⟨xs, r1, r2⟩ := hM.out.2.new
                  obtain ⟨Ay, cy, hy⟩ := ownsRow_slice r1
                  have ly := hM.out.2.len
                  have ly0 : vlen (Value.slice Ai ni ci) = ni := rfl
                  rw [ly0] at ly
                  obtain ⟨ny, hny⟩ : ∃ ny, ny = vlen u19 := ⟨_, rfl⟩
                  rw [← hny] at hy ly r1 r2
                  subst hy
                  have hny2 : ny ≤ 1000080 := by omega
                  have LY := Lib.hid ly
                  clear hny ly
                  have RX := Lib.hid (And.intro r1 r2)
                  by_cases hlk : k < 80
                  · have hkn : (k : Int) < 80 := by omega
                    have NX : Hid (∀ (g4 cap4 : Nat) (W2 : World), W2.ownsRow base 53 3 (.slice (some ⟨g4, 0, none⟩) (ny + 1) cap4) (ny + 1) (xs ++ [.int .u16 mi, .slice none 0 0, .slice none 0 0]) → (wr.alloc (.cells #[.int .u16 mi, .slice none 0 0, .slice none 0 0] 53)).grownBy W2 (Value.slice Ay ny cy).ownBlock →
                        ((Value.slice Ay ny cy).ownBlock = some g4 ∨ (g4 = (wr.alloc (.cells #[.int .u16 mi, .slice none 0 0, .slice none 0 0] 53)).heap.size ∧ ∀ k, k < (wr.alloc (.cells #[.int .u16 mi, .slice none 0 0, .slice none 0 0] 53)).heap.size → W2.heap[k]? = (wr.alloc (.cells #[.int .u16 mi, .slice none 0 0, .slice none 0 0] 53)).heap[k]?)) →
                        PB shW mkW wBC W2 base 53 3 30 80 vW ys (Value.slice AxW i cxW) (i + 1) ∧ PG shW wBC W2 base 53 3 (mkW i) vW ys (Value.slice AxW i cxW) (.slice Ai ni ci) (.slice (some ⟨g4, 0, none⟩) (ny + 1) cap4) (k + 1)) := fun g4 cap4 W2 ho hg hat => by
                      have p1 : PB shW mkW wBC wr base 53 3 30 80 vW ys (Value.slice AxW i cxW) (ys.length + 1) := by rw [← HI.out]; exact hM.out.1
                      refine ⟨?_, ?_⟩
                      · have p3 := p1.other HB.out.nW BWW.out hil' (Below.alloc (Below.refl _ _) (Nat.le_refl _) _) (Upd.of_grown hg) (fun g hg2 => by
                          rw [EVV.out, HV.out]
                          exact hM.out.2.yb g hg2)
                        rw [← HI.out] at p3
                        exact p3
                      · rw [HMI.out] at ho
                        exact hM.out.2.app (ob := .cells #[.int .u16 mi, .slice none 0 0, .slice none 0 0] 53) rfl (by decide) rfl p1.ysb (fun b hb2 => (ownsRow_own p1.xrow b hb2).1) hsz RX.out ho hg hat
                    have hbr : base ≤ wr.heap.size := Nat.le_trans (by omega) hsz
                    have RO := Lib.hid (RX.out.1.alloc (.cells #[.int .u16 mi, .slice none 0 0, .slice none 0 0] 53))
                    clear hM r1 r2
                    go_wp2_with (first
                      | (at_builtin; refine wpList_append_kept rfl _ _ 30 rfl base 53 i1 _ 3 56 Tryd.underlying30 hi1 hp0 hp1 hp2 rfl (by decide) (.slice Ay ny cy) ny xs rfl RO.out ⟨wr.heap.size, 0, none⟩ 1 1 [.int .u16 mi, .slice none 0 0, .slice none 0 0] rfl rfl ?hnews2 ?hone2 (by decide) (by simp only [maxLen]; omega) (by omega) (by simp; omega) ?_; (case hnews2 => exact news3 _ (heap_alloc_at _ _)); (case hone2 => intro u hu; simp at hu; first | (rcases hu with rfl | rfl | rfl; all_goals rfl) | (rcases hu with rfl | rfl; all_goals rfl) | (rcases hu with rfl; rfl) | (subst hu; rfl)); intro g4 cap4 W2 ho hgr hat; have FN := Lib.hid (NX.out g4 cap4 W2 ho hgr hat); clear ho hgr hat))
                    go_roundw
                    case rel => exact ⟨k + 1, hlk, by go_num, FN⟩
                    case measure => first | (simp [intOf]; done) | (simp [intOf]; omega)
                  · have hke : k = 80 := by omega
                    have hkn : ¬ (k : Int) < 80 := by omega
                    have NX : Hid (∀ (g4 cap4 : Nat) (W2 : World), W2.ownsRow wBC.heap.size 30 1 (.slice (some ⟨g4, 0, none⟩) (i + 1) cap4) (i + 1) (ys ++ [.slice Ay ny cy]) → (wr.alloc (.cells #[.slice Ay ny cy] 30)).grownBy W2 (Value.slice AxW i cxW).ownBlock →
                        ((Value.slice AxW i cxW).ownBlock = some g4 ∨ (g4 = (wr.alloc (.cells #[.slice Ay ny cy] 30)).heap.size ∧ ∀ k, k < (wr.alloc (.cells #[.slice Ay ny cy] 30)).heap.size → W2.heap[k]? = (wr.alloc (.cells #[.slice Ay ny cy] 30)).heap[k]?)) →
                        PB shW mkW wBC W2 base 53 3 30 80 vW (ys ++ [.slice Ay ny cy]) (.slice (some ⟨g4, 0, none⟩) (i + 1) cap4) (i + 1)) := fun g4 cap4 W2 ho hg hat => by
                      have p1 : PB shW mkW wBC wr base 53 3 30 80 vW ys (Value.slice AxW i cxW) (ys.length + 1) := by rw [← HI.out]; exact hM.out.1
                      have p2 : PG shW wBC wr base 53 3 (mkW ys.length) vW ys (Value.slice AxW i cxW) vW[ys.length] (.slice Ay ny cy) 80 := by
                        have p4 := hM.out.2
                        rw [hke] at p4
                        rw [EVV.out, HV.out, ← HI.out]
                        exact p4
                      have p3 := p1.push (ob := .cells #[.slice Ay ny cy] 30) hil' p2 (by rw [EVV.out, ← HNI.out]; exact sm) BWW.out (by rw [← HI.out]; exact ho) hg hat
                      rw [← HI.out] at p3
                      exact p3
                    have RX2 : Hid ((wr.alloc (.cells #[.slice Ay ny cy] 30)).ownsRow wBC.heap.size 30 1 (Value.slice AxW i cxW) i ys) := by
                      have p1 := hM.out.1.xrow
                      rw [← HI.out] at p1
                      exact p1.alloc _
                    clear hM r1 r2
                    go_wp2_with (first
                      | (at_builtin; refine wpList_append_kept rfl _ _ 43 rfl wBC.heap.size 30 i2 _ 1 24 Tryd.underlying43 hi2 hr0 hr1 hr2 rfl (by decide) (Value.slice AxW i cxW) i ys rfl RX2.out ⟨wr.heap.size, 0, none⟩ 1 1 [.slice Ay ny cy] rfl rfl ?hnews5 ?hone5 (by decide) (by simp only [maxLen]; omega) (by omega) (by simp; omega) ?_; (case hnews5 => exact news1 _ (heap_alloc_at _ _)); (case hone5 => intro u hu; simp at hu; subst hu; rfl); intro g4 cap4 W2 ho hgr hat; have FN := Lib.hid (NX.out g4 cap4 W2 ho hgr hat); clear ho hgr hat))
                    have HIE : Hid ((ys ++ [Value.slice Ay ny cy]).length = i + 1) := by rw [HI.out]; exact List.length_append
                    go_roundw
                    case rel => exact ⟨ys ++ [.slice Ay ny cy], by rw [HIE.out]; exact hlt, by rw [HIE.out]; go_num, by rw [HIE.out]; exact FN⟩
                    case measure => first | (simp [intOf]; done) | (simp [intOf]; omega)
              · have hin : ¬ (i : Int) < (nW : Int) := by omega
                have YLW : Hid (ys.length = vW.length) := by
                  have h1 := NW.out
                  have h2 := HI.out
                  show ys.length = vW.length
                  omega
                have hie : nW = i := by omega
                subst hie
                have DPW := Lib.hid hP.out
                have UBW := Lib.hid hP.out.upd
                have FMWI := Lib.hid (FMCI.out.upd UBW.out XI.out.2.2 (fun ad e => (FAI.out ad e).2.2))
                have FMWC := Lib.hid (FMCC.out.upd UBW.out XI.out.2.2 (fun ad e => (FAC.out ad e).2.2))
                have FMWW := Lib.hid (FMCW.out.upd UBW.out XI.out.2.2 (fun ad e => (FAW.out ad e).2.2))
                have UP6 : Hid (Upd w wr (anyB vI vC vW)) := UP5.out.trans UBW.out (fun b _ hb => .inr (.inr hb))
                obtain ⟨ysW, hys⟩ : ∃ y, y = ys := ⟨_, rfl⟩
                subst hys
                have hbW : base ≤ wr.heap.size := Nat.le_trans (by omega) UBW.out.size
                obtain ⟨wBW, hW⟩ : ∃ W, W = wr := ⟨_, rfl⟩
                subst hW
                clear hP PBW FMCI FMCC FMCW
                go_wp2_with (fail)
                have TI : Hid (PC wBW 5 12 mkI vI ysI AxI cxI) := by
                  refine (DPI.out.told YLI.out ((UBC.out.mono (T := fun b => b ∈ bks vC ∨ b ∈ bks vW) (fun b _ h => .inl h)).trans UBW.out (fun b _ h => .inr h)) (fun b hb2 => ?_)).1
                  rcases hb2 with h | h
                  · exact ⟨Nat.lt_of_lt_of_le (BLC.out b h).1 SZ.out, fun h2 => HB.out.dIC b h2 h⟩
                  · exact ⟨Nat.lt_of_lt_of_le (BLW.out b h).1 SZ.out, fun h2 => HB.out.dIW b h2 h⟩
                have TC : Hid (PC wBW 1 12 mkC vC ysC AxC cxC) :=
                  (DPC.out.told YLC.out UBW.out (fun b h => ⟨Nat.lt_of_lt_of_le (BLW.out b h).1 (Nat.le_trans SZ.out UBI.out.size), fun h2 => HB.out.dCW b h2 h⟩)).1
                have TW : Hid (PC wBW 3 80 mkW vW ysW AxW cxW) :=
                  (DPW.out.told (S := fun _ => False) YLW.out (Upd.refl _ _) (fun b h => h.elim)).1
                have YNI : ysI.length = nI := YLI.out.trans NI.out.symm
                have YNC : ysC.length = nC := YLC.out.trans NC.out.symm
                have YNW : ysW.length = nW := YLW.out.trans NW.out.symm
                go_meet
                exact ⟨ysI, ysC, ysW, AxI, AxC, AxW, cxI, cxC, cxW, by rw [YNI], by rw [YNC], by rw [YNW], UP6.out, FMWI.out, FMWC.out, FMWW.out, TI.out, TC.out, TW.out, by rw [← NI.out]; exact lI, by rw [← NC.out]; exact lC, by rw [← NW.out]; exact lW⟩
set_option maxRecDepth 100000 in
set_option maxHeartbeats 8000000 in
theorem apart_any (w : World) (base X : Nat) (vI vC vW : List Value) (AI AC AW : Option Addr) (cI cC cW : Nat) (h : BookAt w base X vI vC vW AI AC AW cI cC cW) (hb : base ≤ w.heap.size) :
    Calls Tryd.prog 17 #[.pointer (some ⟨X, 0, none⟩)] w fun e w' => e = .returned (.bool true) ∧ Upd w w' (anyB vI vC vW) := by
  have lI := h.lI
  have lC := h.lC
  have lW := h.lW
  obtain ⟨nI, hnI⟩ : ∃ n, n = vI.length := ⟨_, rfl⟩
  obtain ⟨nC, hnC⟩ : ∃ n, n = vC.length := ⟨_, rfl⟩
  obtain ⟨nW, hnW⟩ : ∃ n, n = vW.length := ⟨_, rfl⟩
  have NI := Lib.hid hnI
  have NC := Lib.hid hnC
  have NW := Lib.hid hnW
  rw [← hnI] at lI
  rw [← hnC] at lC
  rw [← hnW] at lW
  clear hnI hnC hnW
  have HB := Lib.hid h
  have XI := Lib.hid (h.fr X (.inl rfl))
  have FAI := Lib.hid (fun ad (e : AI = some ad) => h.fr ad.block (.inr (.inl ⟨ad, e, rfl⟩)))
  have FAC := Lib.hid (fun ad (e : AC = some ad) => h.fr ad.block (.inr (.inr (.inl ⟨ad, e, rfl⟩))))
  have FAW := Lib.hid (fun ad (e : AW = some ad) => h.fr ad.block (.inr (.inr (.inr ⟨ad, e, rfl⟩))))
  have BLI := Lib.hid (bks_lt h.gI)
  have BLC := Lib.hid (bks_lt h.gC)
  have BLW := Lib.hid (bks_lt h.gW)
  have FL0I := Lib.hid h.fI
  have FL0C := Lib.hid h.fC
  have FL0W := Lib.hid h.fW
  have PAI := Lib.hid (PA.start (M := mkI) (fun j hj => (h.gI j hj).zero (mkI j)))
  have GC0 : Hid (∀ (j : Nat) (hj : j < vC.length), Mkd shC w base 23 1 vC[j] (mkC j) 0) := fun j hj => (h.gC j hj).zero _
  have GW0 : Hid (∀ (j : Nat) (hj : j < vW.length), Mkd shW w base 53 3 vW[j] (mkW j) 0) := fun j hj => (h.gW j hj).zero _
  have UP0 : Hid (Upd w w (anyB vI vC vW)) := Upd.refl _ _
  clear h
  go_enter Tryd.func17, Tryd.ntmps17
  go_wp2_with (fail)
  go_loopw [3] (fun iv wr => ∃ i : Nat, i ≤ nI ∧ iv = .int .i64 (i : Int) ∧ Hid (PA shI mkI w wr base 60 5 vI i i)) (fun iv _ => nI - (intOf iv).toNat)
  case atStart => exact ⟨0, Nat.zero_le _, rfl, PAI⟩
  case round =>
    obtain ⟨i, hi, rfl, hA⟩ := hrel
    have FL := Lib.hid (FL0I.out.upd hA.out.upd (XI.out.1) (fun ad e => (FAI.out ad e).1))
    have x0 := FL.out.cell
    rw [← NI.out] at x0
    by_cases hlt : i < nI
    · have hil : i < vI.length := by rw [← NI.out]; exact hlt
      obtain ⟨e1, e2⟩ := hA.out.enter hil
      obtain ⟨bf, of, eA, x1⟩ := FL.out.at_ i hil
      obtain ⟨Ai, ci, hv⟩ := e2.slice
      have sm := e2.small
      obtain ⟨v, hvv⟩ : ∃ v, v = vI[i] := ⟨_, rfl⟩
      have HVV := Lib.hid hvv
      rw [← hvv] at hv sm e2 x1
      obtain ⟨ni, hni⟩ : ∃ ni, ni = vlen v := ⟨_, rfl⟩
      rw [← hni] at hv sm
      have HNI := Lib.hid hni
      rw [hv] at x1
      have HV := Lib.hid hv
      have ST := Lib.hid (And.intro e1 e2)
      have hin : (i : Int) < (nI : Int) := by omega
      have wi : IntKind.i64.wrap (1000 + (i : Int)) = 1000 + (i : Int) := by simp [IntKind.wrap, IntKind.bits, IntKind.signed]; omega
      obtain ⟨mi, hmi⟩ : ∃ mi, mi = m16 i := ⟨_, rfl⟩
      have HMI := Lib.hid hmi
      have wm : IntKind.u16.wrap (1000 + (i : Int)) = mi := hmi.symm
      have x1F : Hid (∀ W, Upd w W (fun b => b ∈ bks vI) → W.cell? ⟨X, 1, none⟩ = some (.slice AI nI cI) ∧ W.cell? ⟨bf, of + i, none⟩ = some (.slice Ai ni ci)) := fun W hu => by
        have F2 := FL0I.out.upd hu (XI.out.1) (fun ad e => (FAI.out ad e).1)
        refine ⟨by rw [NI.out]; exact F2.cell, ?_⟩
        obtain ⟨b2, o2, e3, x2⟩ := F2.at_ i hil
        rw [eA] at e3
        cases e3
        rw [x2, ← HVV.out, HV.out]
      subst eA
      clear e1 e2 FL hv hvv hni hmi hA
      go_wp2_with (fail)
      go_loopw [4] (fun kv w6 => ∃ k : Nat, k ≤ ni ∧ kv = .int .i64 (k : Int) ∧ Hid (PA shI mkI w w6 base 60 5 vI i (i + 1) ∧ Mkd shI w6 base 60 5 v (mkI i) (k * 5))) (fun kv _ => ni - (intOf kv).toNat)
      case atStart => exact ⟨0, Nat.zero_le _, rfl, by rw [Nat.zero_mul]; exact ST⟩
      case round =>
        clear x0 x1 ST
        obtain ⟨k, hk, rfl, hM⟩ := hrel
        obtain ⟨x0, x1⟩ := x1F.out _ hM.out.1.upd
        by_cases hlk : k < ni
        · have hkn : (k : Int) < (ni : Int) := by omega
          obtain ⟨g, c, hg⟩ := hM.out.2.form (by rw [← HNI.out]; omega)
          rw [HV.out] at hg
          cases hg
          obtain ⟨u0_, c0, z0, s0⟩ := hM.out.2.cellAt HV.out (t := k * 5) (q := 0) (by omega) (by omega)
          obtain ⟨n0, rfl⟩ := s0
          obtain ⟨u1_, c1, z1, s1⟩ := hM.out.2.cellAt HV.out (t := k * 5 + 1) (q := 1) (by omega) (by omega)
          obtain ⟨n1, rfl⟩ := s1
          obtain ⟨u2_, c2, z2, s2⟩ := hM.out.2.cellAt HV.out (t := k * 5 + 2) (q := 2) (by omega) (by omega)
          obtain ⟨n2, rfl⟩ := s2
          obtain ⟨u3_, c3, z3, s3⟩ := hM.out.2.cellAt HV.out (t := k * 5 + 3) (q := 3) (by omega) (by omega)
          obtain ⟨n3, rfl⟩ := s3
          obtain ⟨u4_, c4, z4, s4⟩ := hM.out.2.cellAt HV.out (t := k * 5 + 4) (q := 4) (by omega) (by omega)
          obtain ⟨n4, rfl⟩ := s4
          have NX : Hid (PA shI mkI w (World.setCell (World.setCell (World.setCell (World.setCell (World.setCell wr ⟨g, k * 5, none⟩ (.int .u16 0)) ⟨g, k * 5 + 1, none⟩ (.int .i64 (1000 + (i : Int)))) ⟨g, k * 5 + 2, none⟩ (.int .u16 0)) ⟨g, k * 5 + 3, none⟩ (.int .u16 0)) ⟨g, k * 5 + 4, none⟩ (.int .u16 0)) base 60 5 vI i (i + 1) ∧ Mkd shI (World.setCell (World.setCell (World.setCell (World.setCell (World.setCell wr ⟨g, k * 5, none⟩ (.int .u16 0)) ⟨g, k * 5 + 1, none⟩ (.int .i64 (1000 + (i : Int)))) ⟨g, k * 5 + 2, none⟩ (.int .u16 0)) ⟨g, k * 5 + 3, none⟩ (.int .u16 0)) ⟨g, k * 5 + 4, none⟩ (.int .u16 0)) base 60 5 v (mkI i) ((k + 1) * 5)) := by
            have q0 := hM.out
            skip
            have q1 := And.intro (q0.1.set (t := k * 5) (u := .int .u16 0) HB.out.nI hil (HVV.out.symm.trans HV.out)) (q0.2.set (u := .int .u16 0) HV.out (by omega) (by rw [show (k * 5) % 5 = 0 by omega]; rfl) (by rw [show (k * 5) % 5 = 0 by omega]; exact ⟨_, rfl⟩))
            have q2 := And.intro (q1.1.set (t := k * 5 + 1) (u := .int .i64 (1000 + (i : Int))) HB.out.nI hil (HVV.out.symm.trans HV.out)) (q1.2.set (u := .int .i64 (1000 + (i : Int))) HV.out (by omega) (by rw [show (k * 5 + 1) % 5 = 1 by omega]; rfl) (by rw [show (k * 5 + 1) % 5 = 1 by omega]; exact ⟨_, rfl⟩))
            have q3 := And.intro (q2.1.set (t := k * 5 + 2) (u := .int .u16 0) HB.out.nI hil (HVV.out.symm.trans HV.out)) (q2.2.set (u := .int .u16 0) HV.out (by omega) (by rw [show (k * 5 + 2) % 5 = 2 by omega]; rfl) (by rw [show (k * 5 + 2) % 5 = 2 by omega]; exact ⟨_, rfl⟩))
            have q4 := And.intro (q3.1.set (t := k * 5 + 3) (u := .int .u16 0) HB.out.nI hil (HVV.out.symm.trans HV.out)) (q3.2.set (u := .int .u16 0) HV.out (by omega) (by rw [show (k * 5 + 3) % 5 = 3 by omega]; rfl) (by rw [show (k * 5 + 3) % 5 = 3 by omega]; exact ⟨_, rfl⟩))
            have q5 := And.intro (q4.1.set (t := k * 5 + 4) (u := .int .u16 0) HB.out.nI hil (HVV.out.symm.trans HV.out)) (q4.2.set (u := .int .u16 0) HV.out (by omega) (by rw [show (k * 5 + 4) % 5 = 4 by omega]; rfl) (by rw [show (k * 5 + 4) % 5 = 4 by omega]; exact ⟨_, rfl⟩))
            exact ⟨q5.1, by rw [show (k + 1) * 5 = k * 5 + 5 by omega]; exact q5.2⟩
          clear hM
          go_wp2_with (fail)
          go_roundw
          case rel => exact ⟨k + 1, hlk, by go_num, NX⟩
          case measure => first | (simp [intOf]; done) | (simp [intOf]; omega)
        · have hkn : ¬ (k : Int) < (ni : Int) := by omega
          have LV : Hid (PA shI mkI w wr base 60 5 vI (i + 1) (i + 1)) := hM.out.1.leave hil (HVV.out ▸ hM.out.2) (by rw [← HVV.out, ← HNI.out]; omega)
          clear hM
          go_wp2_with (fail)
          go_roundw
          case rel => exact ⟨i + 1, hlt, by go_num, LV⟩
          case measure => first | (simp [intOf]; done) | (simp [intOf]; omega)
    · have hin : ¬ (i : Int) < (nI : Int) := by omega
      have DNI : Hid (∀ (j : Nat) (hj : j < vI.length), Mkd shI wr base 60 5 vI[j] (mkI j) (vlen vI[j] * 5)) := fun j hj => hA.out.done j hj (by have := NI.out; omega)
      have UAI := Lib.hid hA.out.upd
      have FLII := Lib.hid (FL0I.out.upd UAI.out XI.out.1 (fun ad e => (FAI.out ad e).1))
      have FLIC := Lib.hid (FL0C.out.upd UAI.out XI.out.1 (fun ad e => (FAC.out ad e).1))
      have FLIW := Lib.hid (FL0W.out.upd UAI.out XI.out.1 (fun ad e => (FAW.out ad e).1))
      have GNC : Hid (∀ (j : Nat) (hj : j < vC.length), Mkd shC wr base 23 1 vC[j] (mkC j) 0) := fun j hj => (GC0.out j hj).upd UAI.out (fun b hb2 hb => (fun h2 => HB.out.dIC b hb h2) (mem_bks hj hb2))
      replace GC0 := GNC
      have GNW : Hid (∀ (j : Nat) (hj : j < vW.length), Mkd shW wr base 53 3 vW[j] (mkW j) 0) := fun j hj => (GW0.out j hj).upd UAI.out (fun b hb2 hb => (fun h2 => HB.out.dIW b hb h2) (mem_bks hj hb2))
      replace GW0 := GNW
      have PAC := Lib.hid (PA.start (M := mkC) GC0.out)
      have UP1 : Hid (Upd w wr (anyB vI vC vW)) := UP0.out.trans UAI.out (fun b _ hb => .inl hb)
      obtain ⟨wAI, hW⟩ : ∃ W, W = wr := ⟨_, rfl⟩
      subst hW
      clear hA PAI FL0I FL0C FL0W
      go_wp2_with (fail)
      go_loopw [5] (fun iv wr => ∃ i : Nat, i ≤ nC ∧ iv = .int .i64 (i : Int) ∧ Hid (PA shC mkC wAI wr base 23 1 vC i i)) (fun iv _ => nC - (intOf iv).toNat)
      case atStart => exact ⟨0, Nat.zero_le _, rfl, PAC⟩
      case round =>
        obtain ⟨i, hi, rfl, hA⟩ := hrel
        have FL := Lib.hid (FLIC.out.upd hA.out.upd (XI.out.2.1) (fun ad e => (FAC.out ad e).2.1))
        have x0 := FL.out.cell
        rw [← NC.out] at x0
        by_cases hlt : i < nC
        · have hil : i < vC.length := by rw [← NC.out]; exact hlt
          obtain ⟨e1, e2⟩ := hA.out.enter hil
          obtain ⟨bf, of, eA, x1⟩ := FL.out.at_ i hil
          obtain ⟨Ai, ci, hv⟩ := e2.slice
          have sm := e2.small
          obtain ⟨v, hvv⟩ : ∃ v, v = vC[i] := ⟨_, rfl⟩
          have HVV := Lib.hid hvv
          rw [← hvv] at hv sm e2 x1
          obtain ⟨ni, hni⟩ : ∃ ni, ni = vlen v := ⟨_, rfl⟩
          rw [← hni] at hv sm
          have HNI := Lib.hid hni
          rw [hv] at x1
          have HV := Lib.hid hv
          have ST := Lib.hid (And.intro e1 e2)
          have hin : (i : Int) < (nC : Int) := by omega
          have wi : IntKind.i64.wrap (1000 + (i : Int)) = 1000 + (i : Int) := by simp [IntKind.wrap, IntKind.bits, IntKind.signed]; omega
          obtain ⟨mi, hmi⟩ : ∃ mi, mi = m16 i := ⟨_, rfl⟩
          have HMI := Lib.hid hmi
          have wm : IntKind.u16.wrap (1000 + (i : Int)) = mi := hmi.symm
          have x1F : Hid (∀ W, Upd wAI W (fun b => b ∈ bks vC) → W.cell? ⟨X, 2, none⟩ = some (.slice AC nC cC) ∧ W.cell? ⟨bf, of + i, none⟩ = some (.slice Ai ni ci)) := fun W hu => by
            have F2 := FLIC.out.upd hu (XI.out.2.1) (fun ad e => (FAC.out ad e).2.1)
            refine ⟨by rw [NC.out]; exact F2.cell, ?_⟩
            obtain ⟨b2, o2, e3, x2⟩ := F2.at_ i hil
            rw [eA] at e3
            cases e3
            rw [x2, ← HVV.out, HV.out]
          subst eA
          clear e1 e2 FL hv hvv hni hmi hA
          go_wp2_with (fail)
          go_loopw [6] (fun kv w6 => ∃ k : Nat, k ≤ ni ∧ kv = .int .i64 (k : Int) ∧ Hid (PA shC mkC wAI w6 base 23 1 vC i (i + 1) ∧ Mkd shC w6 base 23 1 v (mkC i) k)) (fun kv _ => ni - (intOf kv).toNat)
          case atStart => exact ⟨0, Nat.zero_le _, rfl, ST⟩
          case round =>
            clear x0 x1 ST
            obtain ⟨k, hk, rfl, hM⟩ := hrel
            obtain ⟨x0, x1⟩ := x1F.out _ hM.out.1.upd
            by_cases hlk : k < ni
            · have hkn : (k : Int) < (ni : Int) := by omega
              obtain ⟨g, c, hg⟩ := hM.out.2.form (by rw [← HNI.out]; omega)
              rw [HV.out] at hg
              cases hg
              obtain ⟨u0_, c0, z0, s0⟩ := hM.out.2.cellAt HV.out (t := k) (q := 0) (by omega) (by omega)
              obtain ⟨n0, rfl⟩ := s0
              have NX : Hid (PA shC mkC wAI (World.setCell wr ⟨g, k, none⟩ (.int .u16 mi)) base 23 1 vC i (i + 1) ∧ Mkd shC (World.setCell wr ⟨g, k, none⟩ (.int .u16 mi)) base 23 1 v (mkC i) (k + 1)) := by
                have q0 := hM.out
                rw [HMI.out]
                have q1 := And.intro (q0.1.set (t := k) (u := .int .u16 (m16 i)) HB.out.nC hil (HVV.out.symm.trans HV.out)) (q0.2.set (u := .int .u16 (m16 i)) HV.out (by omega) (by rw [show (k) % 1 = 0 by omega]; rfl) (by rw [show (k) % 1 = 0 by omega]; exact ⟨_, rfl⟩))
                exact q1
              clear hM
              go_wp2_with (fail)
              go_roundw
              case rel => exact ⟨k + 1, hlk, by go_num, NX⟩
              case measure => first | (simp [intOf]; done) | (simp [intOf]; omega)
            · have hkn : ¬ (k : Int) < (ni : Int) := by omega
              have LV : Hid (PA shC mkC wAI wr base 23 1 vC (i + 1) (i + 1)) := hM.out.1.leave hil (HVV.out ▸ hM.out.2) (by rw [← HVV.out, ← HNI.out]; omega)
              clear hM
              go_wp2_with (fail)
              go_roundw
              case rel => exact ⟨i + 1, hlt, by go_num, LV⟩
              case measure => first | (simp [intOf]; done) | (simp [intOf]; omega)
        · have hin : ¬ (i : Int) < (nC : Int) := by omega
          have DNC : Hid (∀ (j : Nat) (hj : j < vC.length), Mkd shC wr base 23 1 vC[j] (mkC j) (vlen vC[j] * 1)) := fun j hj => hA.out.done j hj (by have := NC.out; omega)
          have UAC := Lib.hid hA.out.upd
          have FLCI := Lib.hid (FLII.out.upd UAC.out XI.out.2.1 (fun ad e => (FAI.out ad e).2.1))
          have FLCC := Lib.hid (FLIC.out.upd UAC.out XI.out.2.1 (fun ad e => (FAC.out ad e).2.1))
          have FLCW := Lib.hid (FLIW.out.upd UAC.out XI.out.2.1 (fun ad e => (FAW.out ad e).2.1))
          have DMI : Hid (∀ (j : Nat) (hj : j < vI.length), Mkd shI wr base 60 5 vI[j] (mkI j) (vlen vI[j] * 5)) := fun j hj => (DNI.out j hj).upd UAC.out (fun b hb2 hb => (fun h2 => HB.out.dIC b h2 hb) (mem_bks hj hb2))
          replace DNI := DMI
          have GNW : Hid (∀ (j : Nat) (hj : j < vW.length), Mkd shW wr base 53 3 vW[j] (mkW j) 0) := fun j hj => (GW0.out j hj).upd UAC.out (fun b hb2 hb => (fun h2 => HB.out.dCW b hb h2) (mem_bks hj hb2))
          replace GW0 := GNW
          have PAW := Lib.hid (PA.start (M := mkW) GW0.out)
          have UP2 : Hid (Upd w wr (anyB vI vC vW)) := UP1.out.trans UAC.out (fun b _ hb => .inr (.inl hb))
          obtain ⟨wAC, hW⟩ : ∃ W, W = wr := ⟨_, rfl⟩
          subst hW
          clear hA PAC FLII FLIC FLIW
          go_upto_block 8 with fail
          go_cut [] from 27 (fun wx => Hid (ApA w wx base X vI vC vW AI AC AW cI cC cW))
          case rest =>
            go_step
            exact apartB w wc base X vI vC vW AI AC AW cI cC cW HB.out hb hcut.out
          case first =>
            go_wp2_with (fail)
            go_loopw [7] (fun iv wr => ∃ i : Nat, i ≤ nW ∧ iv = .int .i64 (i : Int) ∧ Hid (PA shW mkW wAC wr base 53 3 vW i i)) (fun iv _ => nW - (intOf iv).toNat)
            case atStart => exact ⟨0, Nat.zero_le _, rfl, PAW⟩
            case round =>
              obtain ⟨i, hi, rfl, hA⟩ := hrel
              have FL := Lib.hid (FLCW.out.upd hA.out.upd (XI.out.2.2) (fun ad e => (FAW.out ad e).2.2))
              have x0 := FL.out.cell
              rw [← NW.out] at x0
              by_cases hlt : i < nW
              · have hil : i < vW.length := by rw [← NW.out]; exact hlt
                obtain ⟨e1, e2⟩ := hA.out.enter hil
                obtain ⟨bf, of, eA, x1⟩ := FL.out.at_ i hil
                obtain ⟨Ai, ci, hv⟩ := e2.slice
                have sm := e2.small
                obtain ⟨v, hvv⟩ : ∃ v, v = vW[i] := ⟨_, rfl⟩
                have HVV := Lib.hid hvv
                rw [← hvv] at hv sm e2 x1
                obtain ⟨ni, hni⟩ : ∃ ni, ni = vlen v := ⟨_, rfl⟩
                rw [← hni] at hv sm
                have HNI := Lib.hid hni
                rw [hv] at x1
                have HV := Lib.hid hv
                have ST := Lib.hid (And.intro e1 e2)
                have hin : (i : Int) < (nW : Int) := by omega
                have wi : IntKind.i64.wrap (1000 + (i : Int)) = 1000 + (i : Int) := by simp [IntKind.wrap, IntKind.bits, IntKind.signed]; omega
                obtain ⟨mi, hmi⟩ : ∃ mi, mi = m16 i := ⟨_, rfl⟩
                have HMI := Lib.hid hmi
                have wm : IntKind.u16.wrap (1000 + (i : Int)) = mi := hmi.symm
                have x1F : Hid (∀ W, Upd wAC W (fun b => b ∈ bks vW) → W.cell? ⟨X, 0, none⟩ = some (.slice AW nW cW) ∧ W.cell? ⟨bf, of + i, none⟩ = some (.slice Ai ni ci)) := fun W hu => by
                  have F2 := FLCW.out.upd hu (XI.out.2.2) (fun ad e => (FAW.out ad e).2.2)
                  refine ⟨by rw [NW.out]; exact F2.cell, ?_⟩
                  obtain ⟨b2, o2, e3, x2⟩ := F2.at_ i hil
                  rw [eA] at e3
                  cases e3
                  rw [x2, ← HVV.out, HV.out]
                subst eA
                clear e1 e2 FL hv hvv hni hmi hA
                go_wp2_with (fail)
                go_loopw [8] (fun kv w6 => ∃ k : Nat, k ≤ ni ∧ kv = .int .i64 (k : Int) ∧ Hid (PA shW mkW wAC w6 base 53 3 vW i (i + 1) ∧ Mkd shW w6 base 53 3 v (mkW i) (k * 3))) (fun kv _ => ni - (intOf kv).toNat)
                case atStart => exact ⟨0, Nat.zero_le _, rfl, by rw [Nat.zero_mul]; exact ST⟩
                case round =>
                  clear x0 x1 ST
                  obtain ⟨k, hk, rfl, hM⟩ := hrel
                  obtain ⟨x0, x1⟩ := x1F.out _ hM.out.1.upd
                  by_cases hlk : k < ni
                  · have hkn : (k : Int) < (ni : Int) := by omega
                    obtain ⟨g, c, hg⟩ := hM.out.2.form (by rw [← HNI.out]; omega)
                    rw [HV.out] at hg
                    cases hg
                    obtain ⟨u0_, c0, z0, s0⟩ := hM.out.2.cellAt HV.out (t := k * 3) (q := 0) (by omega) (by omega)
                    obtain ⟨n0, rfl⟩ := s0
                    obtain ⟨u1_, c1, z1, s1⟩ := hM.out.2.cellAt HV.out (t := k * 3 + 1) (q := 1) (by omega) (by omega)
                    obtain ⟨a1, b1, d1, rfl⟩ := s1
                    obtain ⟨u2_, c2, z2, s2⟩ := hM.out.2.cellAt HV.out (t := k * 3 + 2) (q := 2) (by omega) (by omega)
                    obtain ⟨a2, b2, d2, rfl⟩ := s2
                    have NX : Hid (PA shW mkW wAC (World.setCell (World.setCell (World.setCell wr ⟨g, k * 3, none⟩ (.int .u16 mi)) ⟨g, k * 3 + 1, none⟩ (.slice none 0 0)) ⟨g, k * 3 + 2, none⟩ (.slice none 0 0)) base 53 3 vW i (i + 1) ∧ Mkd shW (World.setCell (World.setCell (World.setCell wr ⟨g, k * 3, none⟩ (.int .u16 mi)) ⟨g, k * 3 + 1, none⟩ (.slice none 0 0)) ⟨g, k * 3 + 2, none⟩ (.slice none 0 0)) base 53 3 v (mkW i) ((k + 1) * 3)) := by
                      have q0 := hM.out
                      rw [HMI.out]
                      have q1 := And.intro (q0.1.set (t := k * 3) (u := .int .u16 (m16 i)) HB.out.nW hil (HVV.out.symm.trans HV.out)) (q0.2.set (u := .int .u16 (m16 i)) HV.out (by omega) (by rw [show (k * 3) % 3 = 0 by omega]; rfl) (by rw [show (k * 3) % 3 = 0 by omega]; exact ⟨_, rfl⟩))
                      have q2 := And.intro (q1.1.set (t := k * 3 + 1) (u := .slice none 0 0) HB.out.nW hil (HVV.out.symm.trans HV.out)) (q1.2.set (u := .slice none 0 0) HV.out (by omega) (by rw [show (k * 3 + 1) % 3 = 1 by omega]; rfl) (by rw [show (k * 3 + 1) % 3 = 1 by omega]; exact ⟨_, _, _, rfl⟩))
                      have q3 := And.intro (q2.1.set (t := k * 3 + 2) (u := .slice none 0 0) HB.out.nW hil (HVV.out.symm.trans HV.out)) (q2.2.set (u := .slice none 0 0) HV.out (by omega) (by rw [show (k * 3 + 2) % 3 = 2 by omega]; rfl) (by rw [show (k * 3 + 2) % 3 = 2 by omega]; exact ⟨_, _, _, rfl⟩))
                      exact ⟨q3.1, by rw [show (k + 1) * 3 = k * 3 + 3 by omega]; exact q3.2⟩
                    clear hM
                    go_wp2_with (fail)
                    go_roundw
                    case rel => exact ⟨k + 1, hlk, by go_num, NX⟩
                    case measure => first | (simp [intOf]; done) | (simp [intOf]; omega)
                  · have hkn : ¬ (k : Int) < (ni : Int) := by omega
                    have LV : Hid (PA shW mkW wAC wr base 53 3 vW (i + 1) (i + 1)) := hM.out.1.leave hil (HVV.out ▸ hM.out.2) (by rw [← HVV.out, ← HNI.out]; omega)
                    clear hM
                    go_wp2_with (fail)
                    go_roundw
                    case rel => exact ⟨i + 1, hlt, by go_num, LV⟩
                    case measure => first | (simp [intOf]; done) | (simp [intOf]; omega)
              · have hin : ¬ (i : Int) < (nW : Int) := by omega
                have DNW : Hid (∀ (j : Nat) (hj : j < vW.length), Mkd shW wr base 53 3 vW[j] (mkW j) (vlen vW[j] * 3)) := fun j hj => hA.out.done j hj (by have := NW.out; omega)
                have UAW := Lib.hid hA.out.upd
                have FLWI := Lib.hid (FLCI.out.upd UAW.out XI.out.2.2 (fun ad e => (FAI.out ad e).2.2))
                have FLWC := Lib.hid (FLCC.out.upd UAW.out XI.out.2.2 (fun ad e => (FAC.out ad e).2.2))
                have FLWW := Lib.hid (FLCW.out.upd UAW.out XI.out.2.2 (fun ad e => (FAW.out ad e).2.2))
                have DMI : Hid (∀ (j : Nat) (hj : j < vI.length), Mkd shI wr base 60 5 vI[j] (mkI j) (vlen vI[j] * 5)) := fun j hj => (DNI.out j hj).upd UAW.out (fun b hb2 hb => (fun h2 => HB.out.dIW b h2 hb) (mem_bks hj hb2))
                replace DNI := DMI
                have DMC : Hid (∀ (j : Nat) (hj : j < vC.length), Mkd shC wr base 23 1 vC[j] (mkC j) (vlen vC[j] * 1)) := fun j hj => (DNC.out j hj).upd UAW.out (fun b hb2 hb => (fun h2 => HB.out.dCW b h2 hb) (mem_bks hj hb2))
                replace DNC := DMC
                have UP3 : Hid (Upd w wr (anyB vI vC vW)) := UP2.out.trans UAW.out (fun b _ hb => .inr (.inr hb))
                obtain ⟨wAW, hW⟩ : ∃ W, W = wr := ⟨_, rfl⟩
                subst hW
                clear hA PAW FLCI FLCC FLCW
                go_wp2_with (fail)
                go_meet
                exact ⟨UP3.out, FLWI.out, FLWC.out, FLWW.out, DNI.out, DNC.out, DNW.out⟩
end Go.Proofs.YtabeljpnmmfpgaaDoor
