/-
  NARROWER THAN 'FOR EVERY INPUT', by the rows' own cells (each row's printed sentence says how): FlowWords: laid · FlowWays: laid · FlowAlone: laid · FlowNames: laid · FlowOrders: laid · FlowBehind: laid.
  DERIVED. THE GIVEN ROWS OF THIS SEAT. 6 by the template 'for every input the law returns true; each argument reads behind the call as it read before'; 0 by the template 'total and deterministic' (their statements: YtabeljpnmmfpgaaDoorTotals.lean).
  GIVEN WITH THE SEED: the statements are not yours to turn. If you find one false, say at which input.
  Laid BY PROGRAM, IN A SANDBOX (cutbox-rows.mjs): the forced cells as the released guide's own fill.sh prints them over the translation 896f0449287eea17… (all of the seat's roots in one cut). By AI agents, Wed Nov 11 2026. No macro, syntax, notation, axiom, sorry.
-/
import Derived.Test.YtabeljpnmmfpgaaDoorChecked
import GoSem.Claim
import GoSem.ClaimJoined
import GoSem.ClaimMapViews
import Derived.JoinedTies
import Derived.KernelRfl
namespace Go.Proofs.YtabeljpnmmfpgaaDoor
/- THE CELL 'sum', in the pinned program and in every row, IS THE sha256 OF THE DUMP (.gsa) THAT YtabeljpnmmfpgaaDoorProg.lean LOADS. Nothing in Lean hashes anything: it is a label: what it is worth is what the hold of that sum in a sandbox is worth. -/
noncomputable def Tryd.pinned : Pinned := { name := "ytabeljpnmmfpgaadoor", sum := "896f0449287eea178bccb8e3be38cd96f8ce719951b7ed20b27be8edc1f44698", checked := Tryd.checked }
namespace Rows
def none {H : Type} : Left H := { results := [], args := [] }

/- WHAT THE LISTED PACKAGE-LEVEL VARIABLES READ AS WHEN THE CALL BEGINS. Each datum BY PROGRAM (the guide's laid-datum.mjs) off the statement by which the dump's own 'gosem.cut.vars' lays the variable. In a bare row this is a premise. The card (YtabeljpnmmfpgaaDoorCards.lean) ties it to the program's text. -/
def laid_wisp_prim_names {H : Type} : DataW H := .agg [.lit (.string []), .lit (.string []), .lit (.string []), .lit (.string []), .lit (.string []), .lit (.string []), .lit (.string []), .lit (.string []), .lit (.string []), .lit (.string [110, 111, 112]), .lit (.string [121, 105, 101, 108, 100]), .lit (.string [104, 97, 108, 116]), .lit (.string [100, 117, 112]), .lit (.string [100, 114, 111, 112]), .lit (.string [115, 119, 97, 112]), .lit (.string [111, 118, 101, 114]), .lit (.string [114, 111, 116]), .lit (.string [110, 105, 112]), .lit (.string [116, 117, 99, 107]), .lit (.string [50, 100, 117, 112]), .lit (.string [50, 100, 114, 111, 112]), .lit (.string [43]), .lit (.string [45]), .lit (.string [42]), .lit (.string [47]), .lit (.string [109, 111, 100]), .lit (.string [117, 47]), .lit (.string [117, 109, 111, 100]), .lit (.string [110, 101, 103, 97, 116, 101]), .lit (.string [97, 98, 115]), .lit (.string [109, 105, 110]), .lit (.string [109, 97, 120]), .lit (.string [49, 43]), .lit (.string [49, 45]), .lit (.string [50, 42]), .lit (.string [50, 47]), .lit (.string [97, 110, 100]), .lit (.string [111, 114]), .lit (.string [120, 111, 114]), .lit (.string [105, 110, 118, 101, 114, 116]), .lit (.string [108, 115, 104, 105, 102, 116]), .lit (.string [114, 115, 104, 105, 102, 116]), .lit (.string [61]), .lit (.string [60, 62]), .lit (.string [60]), .lit (.string [62]), .lit (.string [117, 60]), .lit (.string [117, 62]), .lit (.string [48, 61]), .lit (.string [48, 60]), .lit (.string [64]), .lit (.string [33]), .lit (.string [99, 64]), .lit (.string [99, 33]), .lit (.string [43, 33]), .lit (.string [62, 114]), .lit (.string [114, 62]), .lit (.string [114, 64]), .lit (.string [105]), .lit (.string [106]), .lit (.string [112, 108, 111, 116]), .lit (.string [112, 97, 100]), .lit (.string [116, 111, 110, 101]), .lit (.string [98, 97, 110, 107])]
def laid_wisp_prim_takes {H : Type} : DataW H := .agg [.lit (.int .u8 0), .lit (.int .u8 0), .lit (.int .u8 0), .lit (.int .u8 0), .lit (.int .u8 0), .lit (.int .u8 1), .lit (.int .u8 2), .lit (.int .u8 0), .lit (.int .u8 0), .lit (.int .u8 0), .lit (.int .u8 0), .lit (.int .u8 0), .lit (.int .u8 1), .lit (.int .u8 1), .lit (.int .u8 2), .lit (.int .u8 2), .lit (.int .u8 3), .lit (.int .u8 2), .lit (.int .u8 2), .lit (.int .u8 2), .lit (.int .u8 2), .lit (.int .u8 2), .lit (.int .u8 2), .lit (.int .u8 2), .lit (.int .u8 2), .lit (.int .u8 2), .lit (.int .u8 2), .lit (.int .u8 2), .lit (.int .u8 1), .lit (.int .u8 1), .lit (.int .u8 2), .lit (.int .u8 2), .lit (.int .u8 1), .lit (.int .u8 1), .lit (.int .u8 1), .lit (.int .u8 1), .lit (.int .u8 2), .lit (.int .u8 2), .lit (.int .u8 2), .lit (.int .u8 1), .lit (.int .u8 2), .lit (.int .u8 2), .lit (.int .u8 2), .lit (.int .u8 2), .lit (.int .u8 2), .lit (.int .u8 2), .lit (.int .u8 2), .lit (.int .u8 2), .lit (.int .u8 1), .lit (.int .u8 1), .lit (.int .u8 1), .lit (.int .u8 2), .lit (.int .u8 1), .lit (.int .u8 2), .lit (.int .u8 2), .lit (.int .u8 1), .lit (.int .u8 0), .lit (.int .u8 0), .lit (.int .u8 0), .lit (.int .u8 0), .lit (.int .u8 3), .lit (.int .u8 0), .lit (.int .u8 2), .lit (.int .u8 1)]
def laid_wisp_prim_leaves {H : Type} : DataW H := .agg [.lit (.int .u8 0), .lit (.int .u8 0), .lit (.int .u8 1), .lit (.int .u8 1), .lit (.int .u8 0), .lit (.int .u8 0), .lit (.int .u8 0), .lit (.int .u8 0), .lit (.int .u8 0), .lit (.int .u8 0), .lit (.int .u8 0), .lit (.int .u8 0), .lit (.int .u8 2), .lit (.int .u8 0), .lit (.int .u8 2), .lit (.int .u8 3), .lit (.int .u8 3), .lit (.int .u8 1), .lit (.int .u8 3), .lit (.int .u8 4), .lit (.int .u8 0), .lit (.int .u8 1), .lit (.int .u8 1), .lit (.int .u8 1), .lit (.int .u8 1), .lit (.int .u8 1), .lit (.int .u8 1), .lit (.int .u8 1), .lit (.int .u8 1), .lit (.int .u8 1), .lit (.int .u8 1), .lit (.int .u8 1), .lit (.int .u8 1), .lit (.int .u8 1), .lit (.int .u8 1), .lit (.int .u8 1), .lit (.int .u8 1), .lit (.int .u8 1), .lit (.int .u8 1), .lit (.int .u8 1), .lit (.int .u8 1), .lit (.int .u8 1), .lit (.int .u8 1), .lit (.int .u8 1), .lit (.int .u8 1), .lit (.int .u8 1), .lit (.int .u8 1), .lit (.int .u8 1), .lit (.int .u8 1), .lit (.int .u8 1), .lit (.int .u8 1), .lit (.int .u8 0), .lit (.int .u8 1), .lit (.int .u8 0), .lit (.int .u8 0), .lit (.int .u8 0), .lit (.int .u8 1), .lit (.int .u8 1), .lit (.int .u8 1), .lit (.int .u8 1), .lit (.int .u8 0), .lit (.int .u8 1), .lit (.int .u8 0), .lit (.int .u8 0)]
def laid_wisp_prim_costs {H : Type} : DataW H := .agg [.lit (.int .u8 0), .lit (.int .u8 2), .lit (.int .u8 2), .lit (.int .u8 2), .lit (.int .u8 2), .lit (.int .u8 2), .lit (.int .u8 3), .lit (.int .u8 3), .lit (.int .u8 2), .lit (.int .u8 1), .lit (.int .u8 1), .lit (.int .u8 1), .lit (.int .u8 1), .lit (.int .u8 1), .lit (.int .u8 1), .lit (.int .u8 1), .lit (.int .u8 1), .lit (.int .u8 1), .lit (.int .u8 1), .lit (.int .u8 2), .lit (.int .u8 1), .lit (.int .u8 1), .lit (.int .u8 1), .lit (.int .u8 3), .lit (.int .u8 4), .lit (.int .u8 4), .lit (.int .u8 4), .lit (.int .u8 4), .lit (.int .u8 1), .lit (.int .u8 1), .lit (.int .u8 1), .lit (.int .u8 1), .lit (.int .u8 1), .lit (.int .u8 1), .lit (.int .u8 1), .lit (.int .u8 1), .lit (.int .u8 1), .lit (.int .u8 1), .lit (.int .u8 1), .lit (.int .u8 1), .lit (.int .u8 1), .lit (.int .u8 1), .lit (.int .u8 1), .lit (.int .u8 1), .lit (.int .u8 1), .lit (.int .u8 1), .lit (.int .u8 1), .lit (.int .u8 1), .lit (.int .u8 1), .lit (.int .u8 1), .lit (.int .u8 2), .lit (.int .u8 2), .lit (.int .u8 2), .lit (.int .u8 2), .lit (.int .u8 3), .lit (.int .u8 1), .lit (.int .u8 1), .lit (.int .u8 1), .lit (.int .u8 1), .lit (.int .u8 1), .lit (.int .u8 3), .lit (.int .u8 1), .lit (.int .u8 2), .lit (.int .u8 1)]

/-- 'wisplaw16.FlowWords': WHATEVER THE INPUT: true; the input reads as it did. -/
def flowWordsSpec : ChangeSpec := { name := "flowWords", fn := fun _ => fun
  | [d] => { results := [.lit (.bool true)], args := [d] }
  | _ => none }
def flowWordsRow : OpenClaim := { program := "ytabeljpnmmfpgaadoor", sum := "896f0449287eea178bccb8e3be38cd96f8ce719951b7ed20b27be8edc1f44698", func := "wisp/wisplaw16.FlowWords", spec := "flowWords", unfollowed := true, recurses := true, named := ["wisp/prim.names", "wisp/prim.takes", "wisp/prim.leaves", "wisp/prim.costs"], apart := false, laid := [("wisp/prim.names", laid_wisp_prim_names), ("wisp/prim.takes", laid_wisp_prim_takes), ("wisp/prim.leaves", laid_wisp_prim_leaves), ("wisp/prim.costs", laid_wisp_prim_costs)] }
def FlowWordsSaid : Prop := flowWordsRow.holds Tryd.pinned (OpenSpec.ofChange flowWordsSpec)

/-- ITS FALSE NEIGHBOUR: 'it returns false'. Refute it at one input. -/
def flowWordsWrong : ChangeSpec := { name := "flowWords", fn := fun _ => fun
  | [d] => { results := [.lit (.bool false)], args := [d] }
  | _ => none }
def FlowWordsWrongFalsely : Prop := flowWordsRow.holds Tryd.pinned (OpenSpec.ofChange flowWordsWrong)

/-- 'wisplaw16.FlowWays': WHATEVER THE INPUT: true; the input reads as it did. -/
def flowWaysSpec : ChangeSpec := { name := "flowWays", fn := fun _ => fun
  | [d] => { results := [.lit (.bool true)], args := [d] }
  | _ => none }
def flowWaysRow : OpenClaim := { program := "ytabeljpnmmfpgaadoor", sum := "896f0449287eea178bccb8e3be38cd96f8ce719951b7ed20b27be8edc1f44698", func := "wisp/wisplaw16.FlowWays", spec := "flowWays", unfollowed := true, recurses := true, named := ["wisp/prim.names", "wisp/prim.takes", "wisp/prim.leaves", "wisp/prim.costs"], apart := false, laid := [("wisp/prim.names", laid_wisp_prim_names), ("wisp/prim.takes", laid_wisp_prim_takes), ("wisp/prim.leaves", laid_wisp_prim_leaves), ("wisp/prim.costs", laid_wisp_prim_costs)] }
def FlowWaysSaid : Prop := flowWaysRow.holds Tryd.pinned (OpenSpec.ofChange flowWaysSpec)

/-- ITS FALSE NEIGHBOUR: 'it returns false'. Refute it at one input. -/
def flowWaysWrong : ChangeSpec := { name := "flowWays", fn := fun _ => fun
  | [d] => { results := [.lit (.bool false)], args := [d] }
  | _ => none }
def FlowWaysWrongFalsely : Prop := flowWaysRow.holds Tryd.pinned (OpenSpec.ofChange flowWaysWrong)

/-- 'wisplaw16.FlowAlone': WHATEVER THE INPUT: true; the input reads as it did. -/
def flowAloneSpec : ChangeSpec := { name := "flowAlone", fn := fun _ => fun
  | [d1, d2] => { results := [.lit (.bool true)], args := [d1, d2] }
  | _ => none }
def flowAloneRow : OpenClaim := { program := "ytabeljpnmmfpgaadoor", sum := "896f0449287eea178bccb8e3be38cd96f8ce719951b7ed20b27be8edc1f44698", func := "wisp/wisplaw16.FlowAlone", spec := "flowAlone", unfollowed := true, recurses := true, named := ["wisp/prim.names", "wisp/prim.takes", "wisp/prim.leaves", "wisp/prim.costs"], apart := false, laid := [("wisp/prim.names", laid_wisp_prim_names), ("wisp/prim.takes", laid_wisp_prim_takes), ("wisp/prim.leaves", laid_wisp_prim_leaves), ("wisp/prim.costs", laid_wisp_prim_costs)] }
def FlowAloneSaid : Prop := flowAloneRow.holds Tryd.pinned (OpenSpec.ofChange flowAloneSpec)

/-- ITS FALSE NEIGHBOUR: 'it returns false'. Refute it at one input. -/
def flowAloneWrong : ChangeSpec := { name := "flowAlone", fn := fun _ => fun
  | [d1, d2] => { results := [.lit (.bool false)], args := [d1, d2] }
  | _ => none }
def FlowAloneWrongFalsely : Prop := flowAloneRow.holds Tryd.pinned (OpenSpec.ofChange flowAloneWrong)

/-- 'wisplaw16.FlowNames': WHATEVER THE INPUT: true; the input reads as it did. -/
def flowNamesSpec : ChangeSpec := { name := "flowNames", fn := fun _ => fun
  | [] => { results := [.lit (.bool true)], args := [] }
  | _ => none }
def flowNamesRow : OpenClaim := { program := "ytabeljpnmmfpgaadoor", sum := "896f0449287eea178bccb8e3be38cd96f8ce719951b7ed20b27be8edc1f44698", func := "wisp/wisplaw16.FlowNames", spec := "flowNames", unfollowed := true, recurses := true, named := ["wisp/prim.names", "wisp/prim.takes", "wisp/prim.leaves", "wisp/prim.costs"], apart := false, laid := [("wisp/prim.names", laid_wisp_prim_names), ("wisp/prim.takes", laid_wisp_prim_takes), ("wisp/prim.leaves", laid_wisp_prim_leaves), ("wisp/prim.costs", laid_wisp_prim_costs)] }
def FlowNamesSaid : Prop := flowNamesRow.holds Tryd.pinned (OpenSpec.ofChange flowNamesSpec)

/-- ITS FALSE NEIGHBOUR: 'it returns false'. Refute it at one input. -/
def flowNamesWrong : ChangeSpec := { name := "flowNames", fn := fun _ => fun
  | [] => { results := [.lit (.bool false)], args := [] }
  | _ => none }
def FlowNamesWrongFalsely : Prop := flowNamesRow.holds Tryd.pinned (OpenSpec.ofChange flowNamesWrong)

/-- 'wisplaw16.FlowOrders': WHATEVER THE INPUT: true; the input reads as it did. -/
def flowOrdersSpec : ChangeSpec := { name := "flowOrders", fn := fun _ => fun
  | [d] => { results := [.lit (.bool true)], args := [d] }
  | _ => none }
def flowOrdersRow : OpenClaim := { program := "ytabeljpnmmfpgaadoor", sum := "896f0449287eea178bccb8e3be38cd96f8ce719951b7ed20b27be8edc1f44698", func := "wisp/wisplaw16.FlowOrders", spec := "flowOrders", unfollowed := true, recurses := true, named := ["wisp/prim.names", "wisp/prim.takes", "wisp/prim.leaves", "wisp/prim.costs"], apart := false, laid := [("wisp/prim.names", laid_wisp_prim_names), ("wisp/prim.takes", laid_wisp_prim_takes), ("wisp/prim.leaves", laid_wisp_prim_leaves), ("wisp/prim.costs", laid_wisp_prim_costs)] }
def FlowOrdersSaid : Prop := flowOrdersRow.holds Tryd.pinned (OpenSpec.ofChange flowOrdersSpec)

/-- ITS FALSE NEIGHBOUR: 'it returns false'. Refute it at one input. -/
def flowOrdersWrong : ChangeSpec := { name := "flowOrders", fn := fun _ => fun
  | [d] => { results := [.lit (.bool false)], args := [d] }
  | _ => none }
def FlowOrdersWrongFalsely : Prop := flowOrdersRow.holds Tryd.pinned (OpenSpec.ofChange flowOrdersWrong)

/-- 'wisplaw16.FlowBehind': WHATEVER THE INPUT: true; the input reads as it did. -/
def flowBehindSpec : ChangeSpec := { name := "flowBehind", fn := fun _ => fun
  | [d] => { results := [.lit (.bool true)], args := [d] }
  | _ => none }
def flowBehindRow : OpenClaim := { program := "ytabeljpnmmfpgaadoor", sum := "896f0449287eea178bccb8e3be38cd96f8ce719951b7ed20b27be8edc1f44698", func := "wisp/wisplaw16.FlowBehind", spec := "flowBehind", unfollowed := true, recurses := true, named := ["wisp/prim.names", "wisp/prim.takes", "wisp/prim.leaves", "wisp/prim.costs"], apart := false, laid := [("wisp/prim.names", laid_wisp_prim_names), ("wisp/prim.takes", laid_wisp_prim_takes), ("wisp/prim.leaves", laid_wisp_prim_leaves), ("wisp/prim.costs", laid_wisp_prim_costs)] }
def FlowBehindSaid : Prop := flowBehindRow.holds Tryd.pinned (OpenSpec.ofChange flowBehindSpec)

/-- ITS FALSE NEIGHBOUR: 'it returns false'. Refute it at one input. -/
def flowBehindWrong : ChangeSpec := { name := "flowBehind", fn := fun _ => fun
  | [d] => { results := [.lit (.bool false)], args := [d] }
  | _ => none }
def FlowBehindWrongFalsely : Prop := flowBehindRow.holds Tryd.pinned (OpenSpec.ofChange flowBehindWrong)

/- THE SECOND FORM. 'bulk': how many values and letters a reading holds, each counted each time it is reached (what is shared counts as often as it is met; a slice's spare places count too). A statement '..UptoSaid' is the law's where the arguments, and the package variables that the reading takes, are together of bulk at most 1048576: NARROWER than '..Said'. Prove '..Said' where nothing that the law and all that it calls make is longer than what came in: it says more and counts as full. Else prove '..UptoSaid'. A law counts once. -/
mutual
def uptoBulk {H : Type} : DataW H → Nat
  | .lit (.string bytes) => bytes.length + 1
  | .lit _ => 1
  | .nil => 1
  | .ptr d => uptoBulk d + 1
  | .slice elems spare => uptoBulkAll elems + uptoBulkAll spare + 1
  | .agg parts => uptoBulkAll parts + 1
  | .iface _ d => uptoBulk d + 1
  | .map entries => uptoBulkEntries entries + 1
  | .held _ => 1
def uptoBulkAll {H : Type} : List (DataW H) → Nat
  | [] => 0
  | d :: r => uptoBulk d + uptoBulkAll r
def uptoBulkEntries {H : Type} : List (Lit × DataW H) → Nat
  | [] => 0
  | x :: r => uptoBulkEntry x + uptoBulkEntries r
def uptoBulkEntry {H : Type} : Lit × DataW H → Nat
  | (.string bytes, d) => bytes.length + uptoBulk d + 1
  | (_, d) => uptoBulk d + 1
 end
def uptoSmall : (H : Type) → List (DataW H) → Bool := fun _ ds => decide (uptoBulkAll ds ≤ 1048576)
def OpenSpec.upto (s : _root_.Go.ChangeSpec) : _root_.Go.OpenSpec := { _root_.Go.OpenSpec.ofChange s with cond := some uptoSmall }

/-- 'wisplaw16.FlowWords', WHERE WHAT IT READS IS OF BULK AT MOST 1048576: true; the input reads as it did. -/
def flowWordsUptoRow : OpenClaim := { program := "ytabeljpnmmfpgaadoor", sum := "896f0449287eea178bccb8e3be38cd96f8ce719951b7ed20b27be8edc1f44698", func := "wisp/wisplaw16.FlowWords", spec := "flowWords", unfollowed := true, recurses := true, named := ["wisp/prim.names", "wisp/prim.takes", "wisp/prim.leaves", "wisp/prim.costs"], apart := false, laid := [("wisp/prim.names", laid_wisp_prim_names), ("wisp/prim.takes", laid_wisp_prim_takes), ("wisp/prim.leaves", laid_wisp_prim_leaves), ("wisp/prim.costs", laid_wisp_prim_costs)], narrowed := true }
def FlowWordsUptoSaid : Prop := flowWordsUptoRow.holds Tryd.pinned (OpenSpec.upto flowWordsSpec)

/-- 'wisplaw16.FlowWays', WHERE WHAT IT READS IS OF BULK AT MOST 1048576: true; the input reads as it did. -/
def flowWaysUptoRow : OpenClaim := { program := "ytabeljpnmmfpgaadoor", sum := "896f0449287eea178bccb8e3be38cd96f8ce719951b7ed20b27be8edc1f44698", func := "wisp/wisplaw16.FlowWays", spec := "flowWays", unfollowed := true, recurses := true, named := ["wisp/prim.names", "wisp/prim.takes", "wisp/prim.leaves", "wisp/prim.costs"], apart := false, laid := [("wisp/prim.names", laid_wisp_prim_names), ("wisp/prim.takes", laid_wisp_prim_takes), ("wisp/prim.leaves", laid_wisp_prim_leaves), ("wisp/prim.costs", laid_wisp_prim_costs)], narrowed := true }
def FlowWaysUptoSaid : Prop := flowWaysUptoRow.holds Tryd.pinned (OpenSpec.upto flowWaysSpec)

/-- 'wisplaw16.FlowAlone', WHERE WHAT IT READS IS OF BULK AT MOST 1048576: true; the input reads as it did. -/
def flowAloneUptoRow : OpenClaim := { program := "ytabeljpnmmfpgaadoor", sum := "896f0449287eea178bccb8e3be38cd96f8ce719951b7ed20b27be8edc1f44698", func := "wisp/wisplaw16.FlowAlone", spec := "flowAlone", unfollowed := true, recurses := true, named := ["wisp/prim.names", "wisp/prim.takes", "wisp/prim.leaves", "wisp/prim.costs"], apart := false, laid := [("wisp/prim.names", laid_wisp_prim_names), ("wisp/prim.takes", laid_wisp_prim_takes), ("wisp/prim.leaves", laid_wisp_prim_leaves), ("wisp/prim.costs", laid_wisp_prim_costs)], narrowed := true }
def FlowAloneUptoSaid : Prop := flowAloneUptoRow.holds Tryd.pinned (OpenSpec.upto flowAloneSpec)

/-- 'wisplaw16.FlowNames', WHERE WHAT IT READS IS OF BULK AT MOST 1048576: true; the input reads as it did. -/
def flowNamesUptoRow : OpenClaim := { program := "ytabeljpnmmfpgaadoor", sum := "896f0449287eea178bccb8e3be38cd96f8ce719951b7ed20b27be8edc1f44698", func := "wisp/wisplaw16.FlowNames", spec := "flowNames", unfollowed := true, recurses := true, named := ["wisp/prim.names", "wisp/prim.takes", "wisp/prim.leaves", "wisp/prim.costs"], apart := false, laid := [("wisp/prim.names", laid_wisp_prim_names), ("wisp/prim.takes", laid_wisp_prim_takes), ("wisp/prim.leaves", laid_wisp_prim_leaves), ("wisp/prim.costs", laid_wisp_prim_costs)], narrowed := true }
def FlowNamesUptoSaid : Prop := flowNamesUptoRow.holds Tryd.pinned (OpenSpec.upto flowNamesSpec)

/-- 'wisplaw16.FlowOrders', WHERE WHAT IT READS IS OF BULK AT MOST 1048576: true; the input reads as it did. -/
def flowOrdersUptoRow : OpenClaim := { program := "ytabeljpnmmfpgaadoor", sum := "896f0449287eea178bccb8e3be38cd96f8ce719951b7ed20b27be8edc1f44698", func := "wisp/wisplaw16.FlowOrders", spec := "flowOrders", unfollowed := true, recurses := true, named := ["wisp/prim.names", "wisp/prim.takes", "wisp/prim.leaves", "wisp/prim.costs"], apart := false, laid := [("wisp/prim.names", laid_wisp_prim_names), ("wisp/prim.takes", laid_wisp_prim_takes), ("wisp/prim.leaves", laid_wisp_prim_leaves), ("wisp/prim.costs", laid_wisp_prim_costs)], narrowed := true }
def FlowOrdersUptoSaid : Prop := flowOrdersUptoRow.holds Tryd.pinned (OpenSpec.upto flowOrdersSpec)

/-- 'wisplaw16.FlowBehind', WHERE WHAT IT READS IS OF BULK AT MOST 1048576: true; the input reads as it did. -/
def flowBehindUptoRow : OpenClaim := { program := "ytabeljpnmmfpgaadoor", sum := "896f0449287eea178bccb8e3be38cd96f8ce719951b7ed20b27be8edc1f44698", func := "wisp/wisplaw16.FlowBehind", spec := "flowBehind", unfollowed := true, recurses := true, named := ["wisp/prim.names", "wisp/prim.takes", "wisp/prim.leaves", "wisp/prim.costs"], apart := false, laid := [("wisp/prim.names", laid_wisp_prim_names), ("wisp/prim.takes", laid_wisp_prim_takes), ("wisp/prim.leaves", laid_wisp_prim_leaves), ("wisp/prim.costs", laid_wisp_prim_costs)], narrowed := true }
def FlowBehindUptoSaid : Prop := flowBehindUptoRow.holds Tryd.pinned (OpenSpec.upto flowBehindSpec)

end Rows
end Go.Proofs.YtabeljpnmmfpgaaDoor
