/-
  No cell of these rows narrows 'for every input' (looked for: loops, veiled, ifaces, maps, wideKeys, modest, calm, conditions, laid).
  DERIVED. THE GIVEN ROWS OF THIS SEAT. 13 by the template 'for every input the law returns true; each argument reads behind the call as it read before'; 0 by the template 'total and deterministic' (their statements: YtojnabmgolpodaaGreatTotals.lean).
  GIVEN WITH THE SEED: the statements are not yours to turn. If you find one false, say at which input.
  Laid BY PROGRAM, IN A SANDBOX (cutbox-rows.mjs): the forced cells as the released guide's own fill.sh prints them over the translation f8eb000c913208d5… (all of the seat's roots in one cut). By AI agents, Wed Nov 11 2026. No macro, syntax, notation, axiom, sorry.
-/
import Derived.Test.YtojnabmgolpodaaGreatChecked
import GoSem.Claim
import GoSem.ClaimJoined
import GoSem.ClaimMapViews
import Derived.JoinedTies
import Derived.KernelRfl
namespace Go.Proofs.YtojnabmgolpodaaGreat
/- THE CELL 'sum', in the pinned program and in every row, IS THE sha256 OF THE DUMP (.gsa) THAT YtojnabmgolpodaaGreatProg.lean LOADS. Nothing in Lean hashes anything: it is a label: what it is worth is what the hold of that sum in a sandbox is worth. -/
noncomputable def Tryz.pinned : Pinned := { name := "ytojnabmgolpodaagreat", sum := "f8eb000c913208d51b48594be8085b8fe65118f3d06d7635bc456557df1b7bab", checked := Tryz.checked }
namespace Rows
def none {H : Type} : Left H := { results := [], args := [] }

/-- 'sigiltop.TopPoints': WHATEVER THE INPUT: true; the input reads as it did. -/
def topPointsSpec : ChangeSpec := { name := "topPoints", fn := fun _ => fun
  | [d1, d2] => { results := [.lit (.bool true)], args := [d1, d2] }
  | _ => none }
def topPointsRow : OpenClaim := { program := "ytojnabmgolpodaagreat", sum := "f8eb000c913208d51b48594be8085b8fe65118f3d06d7635bc456557df1b7bab", func := "sigil/sigiltop.TopPoints", spec := "topPoints", inPlace := ["math/bits.Add64", "math/bits.Sub64"], unfollowed := true, recurses := true, named := ["math/bits.divideError", "math/bits.overflowError"], apart := false }
def TopPointsSaid : Prop := topPointsRow.holds Tryz.pinned (OpenSpec.ofChange topPointsSpec)

/-- ITS FALSE NEIGHBOUR: 'it returns false'. Refute it at one input. -/
def topPointsWrong : ChangeSpec := { name := "topPoints", fn := fun _ => fun
  | [d1, d2] => { results := [.lit (.bool false)], args := [d1, d2] }
  | _ => none }
def TopPointsWrongFalsely : Prop := topPointsRow.holds Tryz.pinned (OpenSpec.ofChange topPointsWrong)

/-- 'sigiltop.TopMade': WHATEVER THE INPUT: true; the input reads as it did. -/
def topMadeSpec : ChangeSpec := { name := "topMade", fn := fun _ => fun
  | [d1, d2, d3] => { results := [.lit (.bool true)], args := [d1, d2, d3] }
  | _ => none }
def topMadeRow : OpenClaim := { program := "ytojnabmgolpodaagreat", sum := "f8eb000c913208d51b48594be8085b8fe65118f3d06d7635bc456557df1b7bab", func := "sigil/sigiltop.TopMade", spec := "topMade", inPlace := ["math/bits.Add64", "math/bits.Sub64"], unfollowed := true, recurses := true, named := ["math/bits.divideError", "math/bits.overflowError"], apart := false }
def TopMadeSaid : Prop := topMadeRow.holds Tryz.pinned (OpenSpec.ofChange topMadeSpec)

/-- ITS FALSE NEIGHBOUR: 'it returns false'. Refute it at one input. -/
def topMadeWrong : ChangeSpec := { name := "topMade", fn := fun _ => fun
  | [d1, d2, d3] => { results := [.lit (.bool false)], args := [d1, d2, d3] }
  | _ => none }
def TopMadeWrongFalsely : Prop := topMadeRow.holds Tryz.pinned (OpenSpec.ofChange topMadeWrong)

/-- 'sigiltop.TopFast': WHATEVER THE INPUT: true; the input reads as it did. -/
def topFastSpec : ChangeSpec := { name := "topFast", fn := fun _ => fun
  | [d1, d2, d3] => { results := [.lit (.bool true)], args := [d1, d2, d3] }
  | _ => none }
def topFastRow : OpenClaim := { program := "ytojnabmgolpodaagreat", sum := "f8eb000c913208d51b48594be8085b8fe65118f3d06d7635bc456557df1b7bab", func := "sigil/sigiltop.TopFast", spec := "topFast", inPlace := ["math/bits.Add64", "math/bits.Sub64"], unfollowed := true, recurses := true, named := ["math/bits.divideError", "math/bits.overflowError"], apart := false }
def TopFastSaid : Prop := topFastRow.holds Tryz.pinned (OpenSpec.ofChange topFastSpec)

/-- ITS FALSE NEIGHBOUR: 'it returns false'. Refute it at one input. -/
def topFastWrong : ChangeSpec := { name := "topFast", fn := fun _ => fun
  | [d1, d2, d3] => { results := [.lit (.bool false)], args := [d1, d2, d3] }
  | _ => none }
def TopFastWrongFalsely : Prop := topFastRow.holds Tryz.pinned (OpenSpec.ofChange topFastWrong)

/-- 'sigillaw21.BlsSums': WHATEVER THE INPUT: true; the input reads as it did. -/
def blsSumsSpec : ChangeSpec := { name := "blsSums", fn := fun _ => fun
  | [d1, d2, d3] => { results := [.lit (.bool true)], args := [d1, d2, d3] }
  | _ => none }
def blsSumsRow : OpenClaim := { program := "ytojnabmgolpodaagreat", sum := "f8eb000c913208d51b48594be8085b8fe65118f3d06d7635bc456557df1b7bab", func := "sigil/sigillaw21.BlsSums", spec := "blsSums", inPlace := ["math/bits.Add64", "math/bits.Sub64"], unfollowed := true, recurses := true, named := ["math/bits.divideError", "math/bits.overflowError"], apart := false }
def BlsSumsSaid : Prop := blsSumsRow.holds Tryz.pinned (OpenSpec.ofChange blsSumsSpec)

/-- ITS FALSE NEIGHBOUR: 'it returns false'. Refute it at one input. -/
def blsSumsWrong : ChangeSpec := { name := "blsSums", fn := fun _ => fun
  | [d1, d2, d3] => { results := [.lit (.bool false)], args := [d1, d2, d3] }
  | _ => none }
def BlsSumsWrongFalsely : Prop := blsSumsRow.holds Tryz.pinned (OpenSpec.ofChange blsSumsWrong)

/-- 'sigillaw21.BlsVerifies': WHATEVER THE INPUT: true; the input reads as it did. -/
def blsVerifiesSpec : ChangeSpec := { name := "blsVerifies", fn := fun _ => fun
  | [d1, d2, d3] => { results := [.lit (.bool true)], args := [d1, d2, d3] }
  | _ => none }
def blsVerifiesRow : OpenClaim := { program := "ytojnabmgolpodaagreat", sum := "f8eb000c913208d51b48594be8085b8fe65118f3d06d7635bc456557df1b7bab", func := "sigil/sigillaw21.BlsVerifies", spec := "blsVerifies", inPlace := ["math/bits.Add64", "math/bits.Sub64"], unfollowed := true, recurses := true, named := ["math/bits.divideError", "math/bits.overflowError"], apart := false }
def BlsVerifiesSaid : Prop := blsVerifiesRow.holds Tryz.pinned (OpenSpec.ofChange blsVerifiesSpec)

/-- ITS FALSE NEIGHBOUR: 'it returns false'. Refute it at one input. -/
def blsVerifiesWrong : ChangeSpec := { name := "blsVerifies", fn := fun _ => fun
  | [d1, d2, d3] => { results := [.lit (.bool false)], args := [d1, d2, d3] }
  | _ => none }
def BlsVerifiesWrongFalsely : Prop := blsVerifiesRow.holds Tryz.pinned (OpenSpec.ofChange blsVerifiesWrong)

/-- 'sigillaw21.BlsTogether': WHATEVER THE INPUT: true; the input reads as it did. -/
def blsTogetherSpec : ChangeSpec := { name := "blsTogether", fn := fun _ => fun
  | [d1, d2, d3] => { results := [.lit (.bool true)], args := [d1, d2, d3] }
  | _ => none }
def blsTogetherRow : OpenClaim := { program := "ytojnabmgolpodaagreat", sum := "f8eb000c913208d51b48594be8085b8fe65118f3d06d7635bc456557df1b7bab", func := "sigil/sigillaw21.BlsTogether", spec := "blsTogether", inPlace := ["math/bits.Add64", "math/bits.Sub64"], unfollowed := true, recurses := true, named := ["math/bits.divideError", "math/bits.overflowError"], apart := false }
def BlsTogetherSaid : Prop := blsTogetherRow.holds Tryz.pinned (OpenSpec.ofChange blsTogetherSpec)

/-- ITS FALSE NEIGHBOUR: 'it returns false'. Refute it at one input. -/
def blsTogetherWrong : ChangeSpec := { name := "blsTogether", fn := fun _ => fun
  | [d1, d2, d3] => { results := [.lit (.bool false)], args := [d1, d2, d3] }
  | _ => none }
def BlsTogetherWrongFalsely : Prop := blsTogetherRow.holds Tryz.pinned (OpenSpec.ofChange blsTogetherWrong)

/-- 'sigillaw21.BlsPossess': WHATEVER THE INPUT: true; the input reads as it did. -/
def blsPossessSpec : ChangeSpec := { name := "blsPossess", fn := fun _ => fun
  | [d1, d2] => { results := [.lit (.bool true)], args := [d1, d2] }
  | _ => none }
def blsPossessRow : OpenClaim := { program := "ytojnabmgolpodaagreat", sum := "f8eb000c913208d51b48594be8085b8fe65118f3d06d7635bc456557df1b7bab", func := "sigil/sigillaw21.BlsPossess", spec := "blsPossess", inPlace := ["math/bits.Add64", "math/bits.Sub64"], unfollowed := true, recurses := true, named := ["math/bits.divideError", "math/bits.overflowError"], apart := false }
def BlsPossessSaid : Prop := blsPossessRow.holds Tryz.pinned (OpenSpec.ofChange blsPossessSpec)

/-- ITS FALSE NEIGHBOUR: 'it returns false'. Refute it at one input. -/
def blsPossessWrong : ChangeSpec := { name := "blsPossess", fn := fun _ => fun
  | [d1, d2] => { results := [.lit (.bool false)], args := [d1, d2] }
  | _ => none }
def BlsPossessWrongFalsely : Prop := blsPossessRow.holds Tryz.pinned (OpenSpec.ofChange blsPossessWrong)

/-- 'sigillaw21.BlsFast': WHATEVER THE INPUT: true; the input reads as it did. -/
def blsFastSpec : ChangeSpec := { name := "blsFast", fn := fun _ => fun
  | [d1, d2, d3] => { results := [.lit (.bool true)], args := [d1, d2, d3] }
  | _ => none }
def blsFastRow : OpenClaim := { program := "ytojnabmgolpodaagreat", sum := "f8eb000c913208d51b48594be8085b8fe65118f3d06d7635bc456557df1b7bab", func := "sigil/sigillaw21.BlsFast", spec := "blsFast", inPlace := ["math/bits.Add64", "math/bits.Sub64"], unfollowed := true, recurses := true, named := ["math/bits.divideError", "math/bits.overflowError"], apart := false }
def BlsFastSaid : Prop := blsFastRow.holds Tryz.pinned (OpenSpec.ofChange blsFastSpec)

/-- ITS FALSE NEIGHBOUR: 'it returns false'. Refute it at one input. -/
def blsFastWrong : ChangeSpec := { name := "blsFast", fn := fun _ => fun
  | [d1, d2, d3] => { results := [.lit (.bool false)], args := [d1, d2, d3] }
  | _ => none }
def BlsFastWrongFalsely : Prop := blsFastRow.holds Tryz.pinned (OpenSpec.ofChange blsFastWrong)

/-- 'sigillaw22.ScriptNames': WHATEVER THE INPUT: true; the input reads as it did. -/
def scriptNamesSpec : ChangeSpec := { name := "scriptNames", fn := fun _ => fun
  | [] => { results := [.lit (.bool true)], args := [] }
  | _ => none }
def scriptNamesRow : OpenClaim := { program := "ytojnabmgolpodaagreat", sum := "f8eb000c913208d51b48594be8085b8fe65118f3d06d7635bc456557df1b7bab", func := "sigil/sigillaw22.ScriptNames", spec := "scriptNames", inPlace := ["math/bits.Add64", "math/bits.Sub64"], unfollowed := true, recurses := true, named := ["math/bits.divideError", "math/bits.overflowError"], apart := false }
def ScriptNamesSaid : Prop := scriptNamesRow.holds Tryz.pinned (OpenSpec.ofChange scriptNamesSpec)

/-- ITS FALSE NEIGHBOUR: 'it returns false'. Refute it at one input. -/
def scriptNamesWrong : ChangeSpec := { name := "scriptNames", fn := fun _ => fun
  | [] => { results := [.lit (.bool false)], args := [] }
  | _ => none }
def ScriptNamesWrongFalsely : Prop := scriptNamesRow.holds Tryz.pinned (OpenSpec.ofChange scriptNamesWrong)

/-- 'sigillaw22.ScriptPlays': WHATEVER THE INPUT: true; the input reads as it did. -/
def scriptPlaysSpec : ChangeSpec := { name := "scriptPlays", fn := fun _ => fun
  | [d] => { results := [.lit (.bool true)], args := [d] }
  | _ => none }
def scriptPlaysRow : OpenClaim := { program := "ytojnabmgolpodaagreat", sum := "f8eb000c913208d51b48594be8085b8fe65118f3d06d7635bc456557df1b7bab", func := "sigil/sigillaw22.ScriptPlays", spec := "scriptPlays", inPlace := ["math/bits.Add64", "math/bits.Sub64"], unfollowed := true, recurses := true, named := ["math/bits.divideError", "math/bits.overflowError"], apart := false }
def ScriptPlaysSaid : Prop := scriptPlaysRow.holds Tryz.pinned (OpenSpec.ofChange scriptPlaysSpec)

/-- ITS FALSE NEIGHBOUR: 'it returns false'. Refute it at one input. -/
def scriptPlaysWrong : ChangeSpec := { name := "scriptPlays", fn := fun _ => fun
  | [d] => { results := [.lit (.bool false)], args := [d] }
  | _ => none }
def ScriptPlaysWrongFalsely : Prop := scriptPlaysRow.holds Tryz.pinned (OpenSpec.ofChange scriptPlaysWrong)

/-- 'sigillaw22.ScriptApart': WHATEVER THE INPUT: true; the input reads as it did. -/
def scriptApartSpec : ChangeSpec := { name := "scriptApart", fn := fun _ => fun
  | [d] => { results := [.lit (.bool true)], args := [d] }
  | _ => none }
def scriptApartRow : OpenClaim := { program := "ytojnabmgolpodaagreat", sum := "f8eb000c913208d51b48594be8085b8fe65118f3d06d7635bc456557df1b7bab", func := "sigil/sigillaw22.ScriptApart", spec := "scriptApart", inPlace := ["math/bits.Add64", "math/bits.Sub64"], unfollowed := true, recurses := true, named := ["math/bits.divideError", "math/bits.overflowError"], apart := false }
def ScriptApartSaid : Prop := scriptApartRow.holds Tryz.pinned (OpenSpec.ofChange scriptApartSpec)

/-- ITS FALSE NEIGHBOUR: 'it returns false'. Refute it at one input. -/
def scriptApartWrong : ChangeSpec := { name := "scriptApart", fn := fun _ => fun
  | [d] => { results := [.lit (.bool false)], args := [d] }
  | _ => none }
def ScriptApartWrongFalsely : Prop := scriptApartRow.holds Tryz.pinned (OpenSpec.ofChange scriptApartWrong)

/-- 'sigillaw22.ScriptShapes': WHATEVER THE INPUT: true; the input reads as it did. -/
def scriptShapesSpec : ChangeSpec := { name := "scriptShapes", fn := fun _ => fun
  | [d] => { results := [.lit (.bool true)], args := [d] }
  | _ => none }
def scriptShapesRow : OpenClaim := { program := "ytojnabmgolpodaagreat", sum := "f8eb000c913208d51b48594be8085b8fe65118f3d06d7635bc456557df1b7bab", func := "sigil/sigillaw22.ScriptShapes", spec := "scriptShapes", inPlace := ["math/bits.Add64", "math/bits.Sub64"], unfollowed := true, recurses := true, named := ["math/bits.divideError", "math/bits.overflowError"], apart := false }
def ScriptShapesSaid : Prop := scriptShapesRow.holds Tryz.pinned (OpenSpec.ofChange scriptShapesSpec)

/-- ITS FALSE NEIGHBOUR: 'it returns false'. Refute it at one input. -/
def scriptShapesWrong : ChangeSpec := { name := "scriptShapes", fn := fun _ => fun
  | [d] => { results := [.lit (.bool false)], args := [d] }
  | _ => none }
def ScriptShapesWrongFalsely : Prop := scriptShapesRow.holds Tryz.pinned (OpenSpec.ofChange scriptShapesWrong)

/-- 'sigillaw22.ScriptKeeps': WHATEVER THE INPUT: true; the input reads as it did. -/
def scriptKeepsSpec : ChangeSpec := { name := "scriptKeeps", fn := fun _ => fun
  | [d] => { results := [.lit (.bool true)], args := [d] }
  | _ => none }
def scriptKeepsRow : OpenClaim := { program := "ytojnabmgolpodaagreat", sum := "f8eb000c913208d51b48594be8085b8fe65118f3d06d7635bc456557df1b7bab", func := "sigil/sigillaw22.ScriptKeeps", spec := "scriptKeeps", inPlace := ["math/bits.Add64", "math/bits.Sub64"], unfollowed := true, recurses := true, named := ["math/bits.divideError", "math/bits.overflowError"], apart := false }
def ScriptKeepsSaid : Prop := scriptKeepsRow.holds Tryz.pinned (OpenSpec.ofChange scriptKeepsSpec)

/-- ITS FALSE NEIGHBOUR: 'it returns false'. Refute it at one input. -/
def scriptKeepsWrong : ChangeSpec := { name := "scriptKeeps", fn := fun _ => fun
  | [d] => { results := [.lit (.bool false)], args := [d] }
  | _ => none }
def ScriptKeepsWrongFalsely : Prop := scriptKeepsRow.holds Tryz.pinned (OpenSpec.ofChange scriptKeepsWrong)

/- THE SECOND FORM. 'bulk': how many values and letters a reading holds, each counted each time it is reached (what is shared counts as often as it is met; a slice's spare places count too). A statement '..UptoSaid' is the law's where the arguments, and the package variables that the reading takes, are together of bulk at most 1048576: NARROWER than '..Said'. Prove '..Said' where nothing that the law and all that it calls make is longer than what came in: it says more and counts as full. Else prove '..UptoSaid'. A law counts once. -/
mutual
def uptoBulk {H : Type} : DataW H → Nat
  | .lit (.string bytes) => bytes.length + 1
  | .lit _ => 1
  | .nil => 1
  | .ptr d => uptoBulk d + 1
  | .slice elems spare => uptoBulkAll elems + uptoBulkAll spare + 1
  | .agg parts => uptoBulkAll parts + 1
  | .iface _ d => uptoBulk d + 1
  | .map entries => uptoBulkEntries entries + 1
  | .held _ => 1
def uptoBulkAll {H : Type} : List (DataW H) → Nat
  | [] => 0
  | d :: r => uptoBulk d + uptoBulkAll r
def uptoBulkEntries {H : Type} : List (Lit × DataW H) → Nat
  | [] => 0
  | x :: r => uptoBulkEntry x + uptoBulkEntries r
def uptoBulkEntry {H : Type} : Lit × DataW H → Nat
  | (.string bytes, d) => bytes.length + uptoBulk d + 1
  | (_, d) => uptoBulk d + 1
 end
def uptoSmall : (H : Type) → List (DataW H) → Bool := fun _ ds => decide (uptoBulkAll ds ≤ 1048576)
def OpenSpec.upto (s : _root_.Go.ChangeSpec) : _root_.Go.OpenSpec := { _root_.Go.OpenSpec.ofChange s with cond := some uptoSmall }

/-- 'sigiltop.TopPoints', WHERE WHAT IT READS IS OF BULK AT MOST 1048576: true; the input reads as it did. -/
def topPointsUptoRow : OpenClaim := { program := "ytojnabmgolpodaagreat", sum := "f8eb000c913208d51b48594be8085b8fe65118f3d06d7635bc456557df1b7bab", func := "sigil/sigiltop.TopPoints", spec := "topPoints", inPlace := ["math/bits.Add64", "math/bits.Sub64"], unfollowed := true, recurses := true, named := ["math/bits.divideError", "math/bits.overflowError"], apart := false, narrowed := true }
def TopPointsUptoSaid : Prop := topPointsUptoRow.holds Tryz.pinned (OpenSpec.upto topPointsSpec)

/-- 'sigiltop.TopMade', WHERE WHAT IT READS IS OF BULK AT MOST 1048576: true; the input reads as it did. -/
def topMadeUptoRow : OpenClaim := { program := "ytojnabmgolpodaagreat", sum := "f8eb000c913208d51b48594be8085b8fe65118f3d06d7635bc456557df1b7bab", func := "sigil/sigiltop.TopMade", spec := "topMade", inPlace := ["math/bits.Add64", "math/bits.Sub64"], unfollowed := true, recurses := true, named := ["math/bits.divideError", "math/bits.overflowError"], apart := false, narrowed := true }
def TopMadeUptoSaid : Prop := topMadeUptoRow.holds Tryz.pinned (OpenSpec.upto topMadeSpec)

/-- 'sigiltop.TopFast', WHERE WHAT IT READS IS OF BULK AT MOST 1048576: true; the input reads as it did. -/
def topFastUptoRow : OpenClaim := { program := "ytojnabmgolpodaagreat", sum := "f8eb000c913208d51b48594be8085b8fe65118f3d06d7635bc456557df1b7bab", func := "sigil/sigiltop.TopFast", spec := "topFast", inPlace := ["math/bits.Add64", "math/bits.Sub64"], unfollowed := true, recurses := true, named := ["math/bits.divideError", "math/bits.overflowError"], apart := false, narrowed := true }
def TopFastUptoSaid : Prop := topFastUptoRow.holds Tryz.pinned (OpenSpec.upto topFastSpec)

/-- 'sigillaw21.BlsSums', WHERE WHAT IT READS IS OF BULK AT MOST 1048576: true; the input reads as it did. -/
def blsSumsUptoRow : OpenClaim := { program := "ytojnabmgolpodaagreat", sum := "f8eb000c913208d51b48594be8085b8fe65118f3d06d7635bc456557df1b7bab", func := "sigil/sigillaw21.BlsSums", spec := "blsSums", inPlace := ["math/bits.Add64", "math/bits.Sub64"], unfollowed := true, recurses := true, named := ["math/bits.divideError", "math/bits.overflowError"], apart := false, narrowed := true }
def BlsSumsUptoSaid : Prop := blsSumsUptoRow.holds Tryz.pinned (OpenSpec.upto blsSumsSpec)

/-- 'sigillaw21.BlsVerifies', WHERE WHAT IT READS IS OF BULK AT MOST 1048576: true; the input reads as it did. -/
def blsVerifiesUptoRow : OpenClaim := { program := "ytojnabmgolpodaagreat", sum := "f8eb000c913208d51b48594be8085b8fe65118f3d06d7635bc456557df1b7bab", func := "sigil/sigillaw21.BlsVerifies", spec := "blsVerifies", inPlace := ["math/bits.Add64", "math/bits.Sub64"], unfollowed := true, recurses := true, named := ["math/bits.divideError", "math/bits.overflowError"], apart := false, narrowed := true }
def BlsVerifiesUptoSaid : Prop := blsVerifiesUptoRow.holds Tryz.pinned (OpenSpec.upto blsVerifiesSpec)

/-- 'sigillaw21.BlsTogether', WHERE WHAT IT READS IS OF BULK AT MOST 1048576: true; the input reads as it did. -/
def blsTogetherUptoRow : OpenClaim := { program := "ytojnabmgolpodaagreat", sum := "f8eb000c913208d51b48594be8085b8fe65118f3d06d7635bc456557df1b7bab", func := "sigil/sigillaw21.BlsTogether", spec := "blsTogether", inPlace := ["math/bits.Add64", "math/bits.Sub64"], unfollowed := true, recurses := true, named := ["math/bits.divideError", "math/bits.overflowError"], apart := false, narrowed := true }
def BlsTogetherUptoSaid : Prop := blsTogetherUptoRow.holds Tryz.pinned (OpenSpec.upto blsTogetherSpec)

/-- 'sigillaw21.BlsPossess', WHERE WHAT IT READS IS OF BULK AT MOST 1048576: true; the input reads as it did. -/
def blsPossessUptoRow : OpenClaim := { program := "ytojnabmgolpodaagreat", sum := "f8eb000c913208d51b48594be8085b8fe65118f3d06d7635bc456557df1b7bab", func := "sigil/sigillaw21.BlsPossess", spec := "blsPossess", inPlace := ["math/bits.Add64", "math/bits.Sub64"], unfollowed := true, recurses := true, named := ["math/bits.divideError", "math/bits.overflowError"], apart := false, narrowed := true }
def BlsPossessUptoSaid : Prop := blsPossessUptoRow.holds Tryz.pinned (OpenSpec.upto blsPossessSpec)

/-- 'sigillaw21.BlsFast', WHERE WHAT IT READS IS OF BULK AT MOST 1048576: true; the input reads as it did. -/
def blsFastUptoRow : OpenClaim := { program := "ytojnabmgolpodaagreat", sum := "f8eb000c913208d51b48594be8085b8fe65118f3d06d7635bc456557df1b7bab", func := "sigil/sigillaw21.BlsFast", spec := "blsFast", inPlace := ["math/bits.Add64", "math/bits.Sub64"], unfollowed := true, recurses := true, named := ["math/bits.divideError", "math/bits.overflowError"], apart := false, narrowed := true }
def BlsFastUptoSaid : Prop := blsFastUptoRow.holds Tryz.pinned (OpenSpec.upto blsFastSpec)

/-- 'sigillaw22.ScriptNames', WHERE WHAT IT READS IS OF BULK AT MOST 1048576: true; the input reads as it did. -/
def scriptNamesUptoRow : OpenClaim := { program := "ytojnabmgolpodaagreat", sum := "f8eb000c913208d51b48594be8085b8fe65118f3d06d7635bc456557df1b7bab", func := "sigil/sigillaw22.ScriptNames", spec := "scriptNames", inPlace := ["math/bits.Add64", "math/bits.Sub64"], unfollowed := true, recurses := true, named := ["math/bits.divideError", "math/bits.overflowError"], apart := false, narrowed := true }
def ScriptNamesUptoSaid : Prop := scriptNamesUptoRow.holds Tryz.pinned (OpenSpec.upto scriptNamesSpec)

/-- 'sigillaw22.ScriptPlays', WHERE WHAT IT READS IS OF BULK AT MOST 1048576: true; the input reads as it did. -/
def scriptPlaysUptoRow : OpenClaim := { program := "ytojnabmgolpodaagreat", sum := "f8eb000c913208d51b48594be8085b8fe65118f3d06d7635bc456557df1b7bab", func := "sigil/sigillaw22.ScriptPlays", spec := "scriptPlays", inPlace := ["math/bits.Add64", "math/bits.Sub64"], unfollowed := true, recurses := true, named := ["math/bits.divideError", "math/bits.overflowError"], apart := false, narrowed := true }
def ScriptPlaysUptoSaid : Prop := scriptPlaysUptoRow.holds Tryz.pinned (OpenSpec.upto scriptPlaysSpec)

/-- 'sigillaw22.ScriptApart', WHERE WHAT IT READS IS OF BULK AT MOST 1048576: true; the input reads as it did. -/
def scriptApartUptoRow : OpenClaim := { program := "ytojnabmgolpodaagreat", sum := "f8eb000c913208d51b48594be8085b8fe65118f3d06d7635bc456557df1b7bab", func := "sigil/sigillaw22.ScriptApart", spec := "scriptApart", inPlace := ["math/bits.Add64", "math/bits.Sub64"], unfollowed := true, recurses := true, named := ["math/bits.divideError", "math/bits.overflowError"], apart := false, narrowed := true }
def ScriptApartUptoSaid : Prop := scriptApartUptoRow.holds Tryz.pinned (OpenSpec.upto scriptApartSpec)

/-- 'sigillaw22.ScriptShapes', WHERE WHAT IT READS IS OF BULK AT MOST 1048576: true; the input reads as it did. -/
def scriptShapesUptoRow : OpenClaim := { program := "ytojnabmgolpodaagreat", sum := "f8eb000c913208d51b48594be8085b8fe65118f3d06d7635bc456557df1b7bab", func := "sigil/sigillaw22.ScriptShapes", spec := "scriptShapes", inPlace := ["math/bits.Add64", "math/bits.Sub64"], unfollowed := true, recurses := true, named := ["math/bits.divideError", "math/bits.overflowError"], apart := false, narrowed := true }
def ScriptShapesUptoSaid : Prop := scriptShapesUptoRow.holds Tryz.pinned (OpenSpec.upto scriptShapesSpec)

/-- 'sigillaw22.ScriptKeeps', WHERE WHAT IT READS IS OF BULK AT MOST 1048576: true; the input reads as it did. -/
def scriptKeepsUptoRow : OpenClaim := { program := "ytojnabmgolpodaagreat", sum := "f8eb000c913208d51b48594be8085b8fe65118f3d06d7635bc456557df1b7bab", func := "sigil/sigillaw22.ScriptKeeps", spec := "scriptKeeps", inPlace := ["math/bits.Add64", "math/bits.Sub64"], unfollowed := true, recurses := true, named := ["math/bits.divideError", "math/bits.overflowError"], apart := false, narrowed := true }
def ScriptKeepsUptoSaid : Prop := scriptKeepsUptoRow.holds Tryz.pinned (OpenSpec.upto scriptKeepsSpec)

end Rows
end Go.Proofs.YtojnabmgolpodaaGreat
