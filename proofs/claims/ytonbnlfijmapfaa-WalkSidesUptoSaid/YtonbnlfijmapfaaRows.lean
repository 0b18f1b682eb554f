/-
  No cell of these rows narrows 'for every input' (looked for: loops, veiled, ifaces, maps, wideKeys, modest, calm, conditions, laid).
  DERIVED. THE GIVEN ROWS OF THIS SEAT. 12 by the template 'for every input the law returns true; each argument reads behind the call as it read before'; 0 by the template 'total and deterministic' (their statements: YtonbnlfijmapfaaTotals.lean).
  GIVEN WITH THE SEED: the statements are not yours to turn. If you find one false, say at which input.
  Laid BY PROGRAM, IN A SANDBOX (cutbox-rows.mjs): the forced cells as the released guide's own fill.sh prints them over the translation 4cead5bfafa32cd4… (all of the seat's roots in one cut). By AI agents, Wed Nov 11 2026. No macro, syntax, notation, axiom, sorry.
-/
import Derived.Test.YtonbnlfijmapfaaChecked
import GoSem.Claim
import GoSem.ClaimJoined
import GoSem.ClaimMapViews
import Derived.JoinedTies
import Derived.KernelRfl
namespace Go.Proofs.Ytonbnlfijmapfaa
/- THE CELL 'sum', in the pinned program and in every row, IS THE sha256 OF THE DUMP (.gsa) THAT YtonbnlfijmapfaaProg.lean LOADS. Nothing in Lean hashes anything: it is a label: what it is worth is what the hold of that sum in a sandbox is worth. -/
noncomputable def Try.pinned : Pinned := { name := "ytonbnlfijmapfaa", sum := "4cead5bfafa32cd476af28a9c7c3dbd8bb5ac6fec1b444199f41e70a44b50b06", checked := Try.checked }
namespace Rows
def none {H : Type} : Left H := { results := [], args := [] }

/-- 'cobweblaw21.WebApart': WHATEVER THE INPUT: true; the input reads as it did. -/
def webApartSpec : ChangeSpec := { name := "webApart", fn := fun _ => fun
  | [d1, d2, d3] => { results := [.lit (.bool true)], args := [d1, d2, d3] }
  | _ => none }
def webApartRow : OpenClaim := { program := "ytonbnlfijmapfaa", sum := "4cead5bfafa32cd476af28a9c7c3dbd8bb5ac6fec1b444199f41e70a44b50b06", func := "cobweb/cobweblaw21.WebApart", spec := "webApart", unfollowed := true, recurses := true, apart := false }
def WebApartSaid : Prop := webApartRow.holds Try.pinned (OpenSpec.ofChange webApartSpec)

/-- ITS FALSE NEIGHBOUR: 'it returns false'. Refute it at one input. -/
def webApartWrong : ChangeSpec := { name := "webApart", fn := fun _ => fun
  | [d1, d2, d3] => { results := [.lit (.bool false)], args := [d1, d2, d3] }
  | _ => none }
def WebApartWrongFalsely : Prop := webApartRow.holds Try.pinned (OpenSpec.ofChange webApartWrong)

/-- 'cobweblaw21.WebSpans': WHATEVER THE INPUT: true; the input reads as it did. -/
def webSpansSpec : ChangeSpec := { name := "webSpans", fn := fun _ => fun
  | [d1, d2, d3] => { results := [.lit (.bool true)], args := [d1, d2, d3] }
  | _ => none }
def webSpansRow : OpenClaim := { program := "ytonbnlfijmapfaa", sum := "4cead5bfafa32cd476af28a9c7c3dbd8bb5ac6fec1b444199f41e70a44b50b06", func := "cobweb/cobweblaw21.WebSpans", spec := "webSpans", unfollowed := true, recurses := true, apart := false }
def WebSpansSaid : Prop := webSpansRow.holds Try.pinned (OpenSpec.ofChange webSpansSpec)

/-- ITS FALSE NEIGHBOUR: 'it returns false'. Refute it at one input. -/
def webSpansWrong : ChangeSpec := { name := "webSpans", fn := fun _ => fun
  | [d1, d2, d3] => { results := [.lit (.bool false)], args := [d1, d2, d3] }
  | _ => none }
def WebSpansWrongFalsely : Prop := webSpansRow.holds Try.pinned (OpenSpec.ofChange webSpansWrong)

/-- 'cobweblaw21.WebKeys': WHATEVER THE INPUT: true; the input reads as it did. -/
def webKeysSpec : ChangeSpec := { name := "webKeys", fn := fun _ => fun
  | [d1, d2, d3] => { results := [.lit (.bool true)], args := [d1, d2, d3] }
  | _ => none }
def webKeysRow : OpenClaim := { program := "ytonbnlfijmapfaa", sum := "4cead5bfafa32cd476af28a9c7c3dbd8bb5ac6fec1b444199f41e70a44b50b06", func := "cobweb/cobweblaw21.WebKeys", spec := "webKeys", unfollowed := true, recurses := true, apart := false }
def WebKeysSaid : Prop := webKeysRow.holds Try.pinned (OpenSpec.ofChange webKeysSpec)

/-- ITS FALSE NEIGHBOUR: 'it returns false'. Refute it at one input. -/
def webKeysWrong : ChangeSpec := { name := "webKeys", fn := fun _ => fun
  | [d1, d2, d3] => { results := [.lit (.bool false)], args := [d1, d2, d3] }
  | _ => none }
def WebKeysWrongFalsely : Prop := webKeysRow.holds Try.pinned (OpenSpec.ofChange webKeysWrong)

/-- 'cobweblaw21.WebTexts': WHATEVER THE INPUT: true; the input reads as it did. -/
def webTextsSpec : ChangeSpec := { name := "webTexts", fn := fun _ => fun
  | [d1, d2, d3] => { results := [.lit (.bool true)], args := [d1, d2, d3] }
  | _ => none }
def webTextsRow : OpenClaim := { program := "ytonbnlfijmapfaa", sum := "4cead5bfafa32cd476af28a9c7c3dbd8bb5ac6fec1b444199f41e70a44b50b06", func := "cobweb/cobweblaw21.WebTexts", spec := "webTexts", unfollowed := true, recurses := true, apart := false }
def WebTextsSaid : Prop := webTextsRow.holds Try.pinned (OpenSpec.ofChange webTextsSpec)

/-- ITS FALSE NEIGHBOUR: 'it returns false'. Refute it at one input. -/
def webTextsWrong : ChangeSpec := { name := "webTexts", fn := fun _ => fun
  | [d1, d2, d3] => { results := [.lit (.bool false)], args := [d1, d2, d3] }
  | _ => none }
def WebTextsWrongFalsely : Prop := webTextsRow.holds Try.pinned (OpenSpec.ofChange webTextsWrong)

/-- 'cobweblaw16.GraphChecks': WHATEVER THE INPUT: true; the input reads as it did. -/
def graphChecksSpec : ChangeSpec := { name := "graphChecks", fn := fun _ => fun
  | [d1, d2, d3] => { results := [.lit (.bool true)], args := [d1, d2, d3] }
  | _ => none }
def graphChecksRow : OpenClaim := { program := "ytonbnlfijmapfaa", sum := "4cead5bfafa32cd476af28a9c7c3dbd8bb5ac6fec1b444199f41e70a44b50b06", func := "cobweb/cobweblaw16.GraphChecks", spec := "graphChecks", unfollowed := true, recurses := true, apart := false }
def GraphChecksSaid : Prop := graphChecksRow.holds Try.pinned (OpenSpec.ofChange graphChecksSpec)

/-- ITS FALSE NEIGHBOUR: 'it returns false'. Refute it at one input. -/
def graphChecksWrong : ChangeSpec := { name := "graphChecks", fn := fun _ => fun
  | [d1, d2, d3] => { results := [.lit (.bool false)], args := [d1, d2, d3] }
  | _ => none }
def GraphChecksWrongFalsely : Prop := graphChecksRow.holds Try.pinned (OpenSpec.ofChange graphChecksWrong)

/-- 'cobweblaw16.GraphOrders': WHATEVER THE INPUT: true; the input reads as it did. -/
def graphOrdersSpec : ChangeSpec := { name := "graphOrders", fn := fun _ => fun
  | [d1, d2, d3] => { results := [.lit (.bool true)], args := [d1, d2, d3] }
  | _ => none }
def graphOrdersRow : OpenClaim := { program := "ytonbnlfijmapfaa", sum := "4cead5bfafa32cd476af28a9c7c3dbd8bb5ac6fec1b444199f41e70a44b50b06", func := "cobweb/cobweblaw16.GraphOrders", spec := "graphOrders", unfollowed := true, recurses := true, apart := false }
def GraphOrdersSaid : Prop := graphOrdersRow.holds Try.pinned (OpenSpec.ofChange graphOrdersSpec)

/-- ITS FALSE NEIGHBOUR: 'it returns false'. Refute it at one input. -/
def graphOrdersWrong : ChangeSpec := { name := "graphOrders", fn := fun _ => fun
  | [d1, d2, d3] => { results := [.lit (.bool false)], args := [d1, d2, d3] }
  | _ => none }
def GraphOrdersWrongFalsely : Prop := graphOrdersRow.holds Try.pinned (OpenSpec.ofChange graphOrdersWrong)

/-- 'cobweblaw17.WalkSides': WHATEVER THE INPUT: true; the input reads as it did. -/
def walkSidesSpec : ChangeSpec := { name := "walkSides", fn := fun _ => fun
  | [d1, d2, d3] => { results := [.lit (.bool true)], args := [d1, d2, d3] }
  | _ => none }
def walkSidesRow : OpenClaim := { program := "ytonbnlfijmapfaa", sum := "4cead5bfafa32cd476af28a9c7c3dbd8bb5ac6fec1b444199f41e70a44b50b06", func := "cobweb/cobweblaw17.WalkSides", spec := "walkSides", unfollowed := true, recurses := true, apart := false }
def WalkSidesSaid : Prop := walkSidesRow.holds Try.pinned (OpenSpec.ofChange walkSidesSpec)

/-- ITS FALSE NEIGHBOUR: 'it returns false'. Refute it at one input. -/
def walkSidesWrong : ChangeSpec := { name := "walkSides", fn := fun _ => fun
  | [d1, d2, d3] => { results := [.lit (.bool false)], args := [d1, d2, d3] }
  | _ => none }
def WalkSidesWrongFalsely : Prop := walkSidesRow.holds Try.pinned (OpenSpec.ofChange walkSidesWrong)

/-- 'cobweblaw19.PathSteps': WHATEVER THE INPUT: true; the input reads as it did. -/
def pathStepsSpec : ChangeSpec := { name := "pathSteps", fn := fun _ => fun
  | [d1, d2, d3] => { results := [.lit (.bool true)], args := [d1, d2, d3] }
  | _ => none }
def pathStepsRow : OpenClaim := { program := "ytonbnlfijmapfaa", sum := "4cead5bfafa32cd476af28a9c7c3dbd8bb5ac6fec1b444199f41e70a44b50b06", func := "cobweb/cobweblaw19.PathSteps", spec := "pathSteps", unfollowed := true, recurses := true, apart := false }
def PathStepsSaid : Prop := pathStepsRow.holds Try.pinned (OpenSpec.ofChange pathStepsSpec)

/-- ITS FALSE NEIGHBOUR: 'it returns false'. Refute it at one input. -/
def pathStepsWrong : ChangeSpec := { name := "pathSteps", fn := fun _ => fun
  | [d1, d2, d3] => { results := [.lit (.bool false)], args := [d1, d2, d3] }
  | _ => none }
def PathStepsWrongFalsely : Prop := pathStepsRow.holds Try.pinned (OpenSpec.ofChange pathStepsWrong)

/-- 'cobweblaw19.PathParts': WHATEVER THE INPUT: true; the input reads as it did. -/
def pathPartsSpec : ChangeSpec := { name := "pathParts", fn := fun _ => fun
  | [d1, d2] => { results := [.lit (.bool true)], args := [d1, d2] }
  | _ => none }
def pathPartsRow : OpenClaim := { program := "ytonbnlfijmapfaa", sum := "4cead5bfafa32cd476af28a9c7c3dbd8bb5ac6fec1b444199f41e70a44b50b06", func := "cobweb/cobweblaw19.PathParts", spec := "pathParts", unfollowed := true, recurses := true, apart := false }
def PathPartsSaid : Prop := pathPartsRow.holds Try.pinned (OpenSpec.ofChange pathPartsSpec)

/-- ITS FALSE NEIGHBOUR: 'it returns false'. Refute it at one input. -/
def pathPartsWrong : ChangeSpec := { name := "pathParts", fn := fun _ => fun
  | [d1, d2] => { results := [.lit (.bool false)], args := [d1, d2] }
  | _ => none }
def PathPartsWrongFalsely : Prop := pathPartsRow.holds Try.pinned (OpenSpec.ofChange pathPartsWrong)

/-- 'cobweblaw19.PathBack': WHATEVER THE INPUT: true; the input reads as it did. -/
def pathBackSpec : ChangeSpec := { name := "pathBack", fn := fun _ => fun
  | [d1, d2, d3] => { results := [.lit (.bool true)], args := [d1, d2, d3] }
  | _ => none }
def pathBackRow : OpenClaim := { program := "ytonbnlfijmapfaa", sum := "4cead5bfafa32cd476af28a9c7c3dbd8bb5ac6fec1b444199f41e70a44b50b06", func := "cobweb/cobweblaw19.PathBack", spec := "pathBack", unfollowed := true, recurses := true, apart := false }
def PathBackSaid : Prop := pathBackRow.holds Try.pinned (OpenSpec.ofChange pathBackSpec)

/-- ITS FALSE NEIGHBOUR: 'it returns false'. Refute it at one input. -/
def pathBackWrong : ChangeSpec := { name := "pathBack", fn := fun _ => fun
  | [d1, d2, d3] => { results := [.lit (.bool false)], args := [d1, d2, d3] }
  | _ => none }
def PathBackWrongFalsely : Prop := pathBackRow.holds Try.pinned (OpenSpec.ofChange pathBackWrong)

/-- 'cobweblaw19.PathRuns': WHATEVER THE INPUT: true; the input reads as it did. -/
def pathRunsSpec : ChangeSpec := { name := "pathRuns", fn := fun _ => fun
  | [d1, d2] => { results := [.lit (.bool true)], args := [d1, d2] }
  | _ => none }
def pathRunsRow : OpenClaim := { program := "ytonbnlfijmapfaa", sum := "4cead5bfafa32cd476af28a9c7c3dbd8bb5ac6fec1b444199f41e70a44b50b06", func := "cobweb/cobweblaw19.PathRuns", spec := "pathRuns", unfollowed := true, recurses := true, apart := false }
def PathRunsSaid : Prop := pathRunsRow.holds Try.pinned (OpenSpec.ofChange pathRunsSpec)

/-- ITS FALSE NEIGHBOUR: 'it returns false'. Refute it at one input. -/
def pathRunsWrong : ChangeSpec := { name := "pathRuns", fn := fun _ => fun
  | [d1, d2] => { results := [.lit (.bool false)], args := [d1, d2] }
  | _ => none }
def PathRunsWrongFalsely : Prop := pathRunsRow.holds Try.pinned (OpenSpec.ofChange pathRunsWrong)

/-- 'cobweblaw19.PathBounds': WHATEVER THE INPUT: true; the input reads as it did. -/
def pathBoundsSpec : ChangeSpec := { name := "pathBounds", fn := fun _ => fun
  | [d1, d2] => { results := [.lit (.bool true)], args := [d1, d2] }
  | _ => none }
def pathBoundsRow : OpenClaim := { program := "ytonbnlfijmapfaa", sum := "4cead5bfafa32cd476af28a9c7c3dbd8bb5ac6fec1b444199f41e70a44b50b06", func := "cobweb/cobweblaw19.PathBounds", spec := "pathBounds", unfollowed := true, recurses := true, apart := false }
def PathBoundsSaid : Prop := pathBoundsRow.holds Try.pinned (OpenSpec.ofChange pathBoundsSpec)

/-- ITS FALSE NEIGHBOUR: 'it returns false'. Refute it at one input. -/
def pathBoundsWrong : ChangeSpec := { name := "pathBounds", fn := fun _ => fun
  | [d1, d2] => { results := [.lit (.bool false)], args := [d1, d2] }
  | _ => none }
def PathBoundsWrongFalsely : Prop := pathBoundsRow.holds Try.pinned (OpenSpec.ofChange pathBoundsWrong)

/- THE SECOND FORM. 'bulk': how many values and letters a reading holds, each counted each time it is reached (what is shared counts as often as it is met; a slice's spare places count too). A statement '..UptoSaid' is the law's where the arguments, and the package variables that the reading takes, are together of bulk at most 1048576: NARROWER than '..Said'. Prove '..Said' where nothing that the law and all that it calls make is longer than what came in: it says more and counts as full. Else prove '..UptoSaid'. A law counts once. -/
mutual
def uptoBulk {H : Type} : DataW H → Nat
  | .lit (.string bytes) => bytes.length + 1
  | .lit _ => 1
  | .nil => 1
  | .ptr d => uptoBulk d + 1
  | .slice elems spare => uptoBulkAll elems + uptoBulkAll spare + 1
  | .agg parts => uptoBulkAll parts + 1
  | .iface _ d => uptoBulk d + 1
  | .map entries => uptoBulkEntries entries + 1
  | .held _ => 1
def uptoBulkAll {H : Type} : List (DataW H) → Nat
  | [] => 0
  | d :: r => uptoBulk d + uptoBulkAll r
def uptoBulkEntries {H : Type} : List (Lit × DataW H) → Nat
  | [] => 0
  | x :: r => uptoBulkEntry x + uptoBulkEntries r
def uptoBulkEntry {H : Type} : Lit × DataW H → Nat
  | (.string bytes, d) => bytes.length + uptoBulk d + 1
  | (_, d) => uptoBulk d + 1
 end
def uptoSmall : (H : Type) → List (DataW H) → Bool := fun _ ds => decide (uptoBulkAll ds ≤ 1048576)
def OpenSpec.upto (s : _root_.Go.ChangeSpec) : _root_.Go.OpenSpec := { _root_.Go.OpenSpec.ofChange s with cond := some uptoSmall }

/-- 'cobweblaw21.WebApart', WHERE WHAT IT READS IS OF BULK AT MOST 1048576: true; the input reads as it did. -/
def webApartUptoRow : OpenClaim := { program := "ytonbnlfijmapfaa", sum := "4cead5bfafa32cd476af28a9c7c3dbd8bb5ac6fec1b444199f41e70a44b50b06", func := "cobweb/cobweblaw21.WebApart", spec := "webApart", unfollowed := true, recurses := true, apart := false, narrowed := true }
def WebApartUptoSaid : Prop := webApartUptoRow.holds Try.pinned (OpenSpec.upto webApartSpec)

/-- 'cobweblaw21.WebSpans', WHERE WHAT IT READS IS OF BULK AT MOST 1048576: true; the input reads as it did. -/
def webSpansUptoRow : OpenClaim := { program := "ytonbnlfijmapfaa", sum := "4cead5bfafa32cd476af28a9c7c3dbd8bb5ac6fec1b444199f41e70a44b50b06", func := "cobweb/cobweblaw21.WebSpans", spec := "webSpans", unfollowed := true, recurses := true, apart := false, narrowed := true }
def WebSpansUptoSaid : Prop := webSpansUptoRow.holds Try.pinned (OpenSpec.upto webSpansSpec)

/-- 'cobweblaw21.WebKeys', WHERE WHAT IT READS IS OF BULK AT MOST 1048576: true; the input reads as it did. -/
def webKeysUptoRow : OpenClaim := { program := "ytonbnlfijmapfaa", sum := "4cead5bfafa32cd476af28a9c7c3dbd8bb5ac6fec1b444199f41e70a44b50b06", func := "cobweb/cobweblaw21.WebKeys", spec := "webKeys", unfollowed := true, recurses := true, apart := false, narrowed := true }
def WebKeysUptoSaid : Prop := webKeysUptoRow.holds Try.pinned (OpenSpec.upto webKeysSpec)

/-- 'cobweblaw21.WebTexts', WHERE WHAT IT READS IS OF BULK AT MOST 1048576: true; the input reads as it did. -/
def webTextsUptoRow : OpenClaim := { program := "ytonbnlfijmapfaa", sum := "4cead5bfafa32cd476af28a9c7c3dbd8bb5ac6fec1b444199f41e70a44b50b06", func := "cobweb/cobweblaw21.WebTexts", spec := "webTexts", unfollowed := true, recurses := true, apart := false, narrowed := true }
def WebTextsUptoSaid : Prop := webTextsUptoRow.holds Try.pinned (OpenSpec.upto webTextsSpec)

/-- 'cobweblaw16.GraphChecks', WHERE WHAT IT READS IS OF BULK AT MOST 1048576: true; the input reads as it did. -/
def graphChecksUptoRow : OpenClaim := { program := "ytonbnlfijmapfaa", sum := "4cead5bfafa32cd476af28a9c7c3dbd8bb5ac6fec1b444199f41e70a44b50b06", func := "cobweb/cobweblaw16.GraphChecks", spec := "graphChecks", unfollowed := true, recurses := true, apart := false, narrowed := true }
def GraphChecksUptoSaid : Prop := graphChecksUptoRow.holds Try.pinned (OpenSpec.upto graphChecksSpec)

/-- 'cobweblaw16.GraphOrders', WHERE WHAT IT READS IS OF BULK AT MOST 1048576: true; the input reads as it did. -/
def graphOrdersUptoRow : OpenClaim := { program := "ytonbnlfijmapfaa", sum := "4cead5bfafa32cd476af28a9c7c3dbd8bb5ac6fec1b444199f41e70a44b50b06", func := "cobweb/cobweblaw16.GraphOrders", spec := "graphOrders", unfollowed := true, recurses := true, apart := false, narrowed := true }
def GraphOrdersUptoSaid : Prop := graphOrdersUptoRow.holds Try.pinned (OpenSpec.upto graphOrdersSpec)

/-- 'cobweblaw17.WalkSides', WHERE WHAT IT READS IS OF BULK AT MOST 1048576: true; the input reads as it did. -/
def walkSidesUptoRow : OpenClaim := { program := "ytonbnlfijmapfaa", sum := "4cead5bfafa32cd476af28a9c7c3dbd8bb5ac6fec1b444199f41e70a44b50b06", func := "cobweb/cobweblaw17.WalkSides", spec := "walkSides", unfollowed := true, recurses := true, apart := false, narrowed := true }
def WalkSidesUptoSaid : Prop := walkSidesUptoRow.holds Try.pinned (OpenSpec.upto walkSidesSpec)

/-- 'cobweblaw19.PathSteps', WHERE WHAT IT READS IS OF BULK AT MOST 1048576: true; the input reads as it did. -/
def pathStepsUptoRow : OpenClaim := { program := "ytonbnlfijmapfaa", sum := "4cead5bfafa32cd476af28a9c7c3dbd8bb5ac6fec1b444199f41e70a44b50b06", func := "cobweb/cobweblaw19.PathSteps", spec := "pathSteps", unfollowed := true, recurses := true, apart := false, narrowed := true }
def PathStepsUptoSaid : Prop := pathStepsUptoRow.holds Try.pinned (OpenSpec.upto pathStepsSpec)

/-- 'cobweblaw19.PathParts', WHERE WHAT IT READS IS OF BULK AT MOST 1048576: true; the input reads as it did. -/
def pathPartsUptoRow : OpenClaim := { program := "ytonbnlfijmapfaa", sum := "4cead5bfafa32cd476af28a9c7c3dbd8bb5ac6fec1b444199f41e70a44b50b06", func := "cobweb/cobweblaw19.PathParts", spec := "pathParts", unfollowed := true, recurses := true, apart := false, narrowed := true }
def PathPartsUptoSaid : Prop := pathPartsUptoRow.holds Try.pinned (OpenSpec.upto pathPartsSpec)

/-- 'cobweblaw19.PathBack', WHERE WHAT IT READS IS OF BULK AT MOST 1048576: true; the input reads as it did. -/
def pathBackUptoRow : OpenClaim := { program := "ytonbnlfijmapfaa", sum := "4cead5bfafa32cd476af28a9c7c3dbd8bb5ac6fec1b444199f41e70a44b50b06", func := "cobweb/cobweblaw19.PathBack", spec := "pathBack", unfollowed := true, recurses := true, apart := false, narrowed := true }
def PathBackUptoSaid : Prop := pathBackUptoRow.holds Try.pinned (OpenSpec.upto pathBackSpec)

/-- 'cobweblaw19.PathRuns', WHERE WHAT IT READS IS OF BULK AT MOST 1048576: true; the input reads as it did. -/
def pathRunsUptoRow : OpenClaim := { program := "ytonbnlfijmapfaa", sum := "4cead5bfafa32cd476af28a9c7c3dbd8bb5ac6fec1b444199f41e70a44b50b06", func := "cobweb/cobweblaw19.PathRuns", spec := "pathRuns", unfollowed := true, recurses := true, apart := false, narrowed := true }
def PathRunsUptoSaid : Prop := pathRunsUptoRow.holds Try.pinned (OpenSpec.upto pathRunsSpec)

/-- 'cobweblaw19.PathBounds', WHERE WHAT IT READS IS OF BULK AT MOST 1048576: true; the input reads as it did. -/
def pathBoundsUptoRow : OpenClaim := { program := "ytonbnlfijmapfaa", sum := "4cead5bfafa32cd476af28a9c7c3dbd8bb5ac6fec1b444199f41e70a44b50b06", func := "cobweb/cobweblaw19.PathBounds", spec := "pathBounds", unfollowed := true, recurses := true, apart := false, narrowed := true }
def PathBoundsUptoSaid : Prop := pathBoundsUptoRow.holds Try.pinned (OpenSpec.upto pathBoundsSpec)

end Rows
end Go.Proofs.Ytonbnlfijmapfaa
