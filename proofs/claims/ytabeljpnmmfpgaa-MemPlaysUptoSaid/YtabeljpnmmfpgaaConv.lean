/-
  string(b) of bytes that a slice holds; when two such strings are the same.
-/
import Derived.Test.YtabeljpnmmfpgaaMemNew
import Derived.Laws.BytesString
import Derived.Laws.Slices
namespace Go.Proofs.Ytabeljpnmmfpgaa
open Go.RowKit Go.MapKept
set_option linter.unusedVariables false
set_option linter.unusedSimpArgs false

def bstr (l : List Int) : ByteArray := l.foldl (fun r n => r.push (UInt8.ofNat n.toNat)) ByteArray.empty
theorem foldl_push (l : List Int) : ∀ s : ByteArray, (l.foldl (fun r n => r.push (UInt8.ofNat n.toNat)) s).data.toList = s.data.toList ++ l.map (fun n => UInt8.ofNat n.toNat) := by
  induction l with
  | nil => intro s; simp
  | cons x r ih => intro s; rw [List.foldl_cons, ih]; simp [ByteArray.push]
theorem bstr_list (l : List Int) : (bstr l).data.toList = l.map (fun n => UInt8.ofNat n.toNat) := by unfold bstr; rw [foldl_push]; rfl
theorem bstr_inj {l l' : List Int} (h : IsBytes l) (h' : IsBytes l') : bstr l = bstr l' ↔ l = l' := by
  constructor
  · intro e
    have e1 : l.map (fun n => UInt8.ofNat n.toNat) = l'.map (fun n => UInt8.ofNat n.toNat) := by rw [← bstr_list, ← bstr_list, e]
    have hl : l.length = l'.length := by simpa using congrArg List.length e1
    apply List.ext_getElem hl
    intro i h1 h2
    have e2 : (l.map (fun n => UInt8.ofNat n.toNat))[i]? = (l'.map (fun n => UInt8.ofNat n.toNat))[i]? := by rw [e1]
    rw [List.getElem?_map, List.getElem?_map, List.getElem?_eq_getElem h1, List.getElem?_eq_getElem h2] at e2
    simp only [Option.map_some, Option.some.injEq] at e2
    have e3 := congrArg UInt8.toNat e2
    have b1 := h _ (List.getElem_mem h1)
    have b2 := h' _ (List.getElem_mem h2)
    rw [UInt8.toNat_ofNat', UInt8.toNat_ofNat'] at e3
    omega
  · rintro rfl; rfl

theorem addr_add (g o j : Nat) : (⟨g, o, none⟩ : Addr).add j = ⟨g, o + j, none⟩ := by unfold Addr.add; split <;> simp_all
theorem run_conv_bytes {P : Program} {w : World} {v : Value} {l : List Int} {src dst e : TypeId} (hs : P.underlying src = some (.slice e)) (he : P.underlying e = some (.int .u8)) (hd : P.underlying dst = some .string) (h : BytesIn w v l) :
    (convert src dst v).run P w = .ok (.string (bstr l)) w := by
  obtain ⟨a, c, rfl, _, h2⟩ := h
  rw [run_convert_bytes_string w src dst e a l.length c hs he hd]
  cases a with
  | none =>
    have : l = [] := by
      cases l with
      | nil => rfl
      | cons x r => obtain ⟨_, _, h3, _⟩ := h2 (by simp); cases h3
    subst this
    rfl
  | some ad =>
    by_cases h0 : 0 < l.length
    · obtain ⟨b, o, h3, h4⟩ := h2 h0
      cases h3
      refine run_bytesToString w ⟨b, o, none⟩ l.length c l ?_
      have := run_loadCells_list (P := P) (w := w) ⟨b, o, none⟩ (l.map (Value.int .u8)) (fun j u hj => by
        rw [List.getElem?_map] at hj
        obtain ⟨x, hx, rfl⟩ := Option.map_eq_some_iff.1 hj
        obtain ⟨hjl, hjx⟩ := List.getElem?_eq_some_iff.1 hx
        have := h4 j hjl
        rw [List.getD_eq_getElem?_getD, hx] at this
        rw [addr_add]; exact this)
      simpa using this
    · have : l = [] := List.eq_nil_of_length_eq_zero (by omega)
      subst this
      refine run_bytesToString w ad 0 c [] ?_
      have := run_loadCells_list (P := P) (w := w) ad [] (by simp)
      simpa using this
end Go.Proofs.Ytabeljpnmmfpgaa
