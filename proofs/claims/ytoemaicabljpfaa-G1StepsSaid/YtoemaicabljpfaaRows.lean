/-
  No cell of these rows narrows 'for every input' (looked for: loops, veiled, ifaces, maps, wideKeys, modest, calm, conditions, laid).
  DERIVED. THE GIVEN ROWS OF THIS SEAT. 23 by the template 'for every input the law returns true; each argument reads behind the call as it read before'; 0 by the template 'total and deterministic' (their statements: YtoemaicabljpfaaTotals.lean).
  GIVEN WITH THE SEED: the statements are not yours to turn. If you find one false, say at which input.
  Laid BY PROGRAM, IN A SANDBOX (cutbox-rows.mjs): the forced cells as the released guide's own fill.sh prints them over the translation 79caf5da253b5006… (all of the seat's roots in one cut). By AI agents, Wed Nov 11 2026. No macro, syntax, notation, axiom, sorry.
-/
import Derived.Test.YtoemaicabljpfaaChecked
import GoSem.Claim
import GoSem.ClaimJoined
import GoSem.ClaimMapViews
import Derived.JoinedTies
import Derived.KernelRfl
namespace Go.Proofs.Ytoemaicabljpfaa
/- THE CELL 'sum', in the pinned program and in every row, IS THE sha256 OF THE DUMP (.gsa) THAT YtoemaicabljpfaaProg.lean LOADS. Nothing in Lean hashes anything: it is a label: what it is worth is what the hold of that sum in a sandbox is worth. -/
noncomputable def Try.pinned : Pinned := { name := "ytoemaicabljpfaa", sum := "79caf5da253b50064787c900da037a7ec7414ace4c1de63f5d23c22d52182522", checked := Try.checked }
namespace Rows
def none {H : Type} : Left H := { results := [], args := [] }

/-- 'sigillaw05.FprootBack': WHATEVER THE INPUT: true; the input reads as it did. -/
def fprootBackSpec : ChangeSpec := { name := "fprootBack", fn := fun _ => fun
  | [d] => { results := [.lit (.bool true)], args := [d] }
  | _ => none }
def fprootBackRow : OpenClaim := { program := "ytoemaicabljpfaa", sum := "79caf5da253b50064787c900da037a7ec7414ace4c1de63f5d23c22d52182522", func := "sigil/sigillaw05.FprootBack", spec := "fprootBack", inPlace := ["math/bits.Sub64", "math/bits.Add64"], unfollowed := true, recurses := true, apart := false }
def FprootBackSaid : Prop := fprootBackRow.holds Try.pinned (OpenSpec.ofChange fprootBackSpec)

/-- ITS FALSE NEIGHBOUR: 'it returns false'. Refute it at one input. -/
def fprootBackWrong : ChangeSpec := { name := "fprootBack", fn := fun _ => fun
  | [d] => { results := [.lit (.bool false)], args := [d] }
  | _ => none }
def FprootBackWrongFalsely : Prop := fprootBackRow.holds Try.pinned (OpenSpec.ofChange fprootBackWrong)

/-- 'sigillaw05.FprootOne': WHATEVER THE INPUT: true; the input reads as it did. -/
def fprootOneSpec : ChangeSpec := { name := "fprootOne", fn := fun _ => fun
  | [d] => { results := [.lit (.bool true)], args := [d] }
  | _ => none }
def fprootOneRow : OpenClaim := { program := "ytoemaicabljpfaa", sum := "79caf5da253b50064787c900da037a7ec7414ace4c1de63f5d23c22d52182522", func := "sigil/sigillaw05.FprootOne", spec := "fprootOne", inPlace := ["math/bits.Sub64", "math/bits.Add64"], unfollowed := true, recurses := true, apart := false }
def FprootOneSaid : Prop := fprootOneRow.holds Try.pinned (OpenSpec.ofChange fprootOneSpec)

/-- ITS FALSE NEIGHBOUR: 'it returns false'. Refute it at one input. -/
def fprootOneWrong : ChangeSpec := { name := "fprootOne", fn := fun _ => fun
  | [d] => { results := [.lit (.bool false)], args := [d] }
  | _ => none }
def FprootOneWrongFalsely : Prop := fprootOneRow.holds Try.pinned (OpenSpec.ofChange fprootOneWrong)

/-- 'sigillaw05.FprootProducts': WHATEVER THE INPUT: true; the input reads as it did. -/
def fprootProductsSpec : ChangeSpec := { name := "fprootProducts", fn := fun _ => fun
  | [d1, d2] => { results := [.lit (.bool true)], args := [d1, d2] }
  | _ => none }
def fprootProductsRow : OpenClaim := { program := "ytoemaicabljpfaa", sum := "79caf5da253b50064787c900da037a7ec7414ace4c1de63f5d23c22d52182522", func := "sigil/sigillaw05.FprootProducts", spec := "fprootProducts", inPlace := ["math/bits.Sub64", "math/bits.Add64"], unfollowed := true, recurses := true, apart := false }
def FprootProductsSaid : Prop := fprootProductsRow.holds Try.pinned (OpenSpec.ofChange fprootProductsSpec)

/-- ITS FALSE NEIGHBOUR: 'it returns false'. Refute it at one input. -/
def fprootProductsWrong : ChangeSpec := { name := "fprootProducts", fn := fun _ => fun
  | [d1, d2] => { results := [.lit (.bool false)], args := [d1, d2] }
  | _ => none }
def FprootProductsWrongFalsely : Prop := fprootProductsRow.holds Try.pinned (OpenSpec.ofChange fprootProductsWrong)

/-- 'sigillaw05.FprootSides': WHATEVER THE INPUT: true; the input reads as it did. -/
def fprootSidesSpec : ChangeSpec := { name := "fprootSides", fn := fun _ => fun
  | [d] => { results := [.lit (.bool true)], args := [d] }
  | _ => none }
def fprootSidesRow : OpenClaim := { program := "ytoemaicabljpfaa", sum := "79caf5da253b50064787c900da037a7ec7414ace4c1de63f5d23c22d52182522", func := "sigil/sigillaw05.FprootSides", spec := "fprootSides", inPlace := ["math/bits.Sub64", "math/bits.Add64"], unfollowed := true, recurses := true, apart := false }
def FprootSidesSaid : Prop := fprootSidesRow.holds Try.pinned (OpenSpec.ofChange fprootSidesSpec)

/-- ITS FALSE NEIGHBOUR: 'it returns false'. Refute it at one input. -/
def fprootSidesWrong : ChangeSpec := { name := "fprootSides", fn := fun _ => fun
  | [d] => { results := [.lit (.bool false)], args := [d] }
  | _ => none }
def FprootSidesWrongFalsely : Prop := fprootSidesRow.holds Try.pinned (OpenSpec.ofChange fprootSidesWrong)

/-- 'sigillaw04.FpNames': WHATEVER THE INPUT: true; the input reads as it did. -/
def fpNamesSpec : ChangeSpec := { name := "fpNames", fn := fun _ => fun
  | [] => { results := [.lit (.bool true)], args := [] }
  | _ => none }
def fpNamesRow : OpenClaim := { program := "ytoemaicabljpfaa", sum := "79caf5da253b50064787c900da037a7ec7414ace4c1de63f5d23c22d52182522", func := "sigil/sigillaw04.FpNames", spec := "fpNames", inPlace := ["math/bits.Sub64", "math/bits.Add64"], unfollowed := true, recurses := true, apart := false }
def FpNamesSaid : Prop := fpNamesRow.holds Try.pinned (OpenSpec.ofChange fpNamesSpec)

/-- ITS FALSE NEIGHBOUR: 'it returns false'. Refute it at one input. -/
def fpNamesWrong : ChangeSpec := { name := "fpNames", fn := fun _ => fun
  | [] => { results := [.lit (.bool false)], args := [] }
  | _ => none }
def FpNamesWrongFalsely : Prop := fpNamesRow.holds Try.pinned (OpenSpec.ofChange fpNamesWrong)

/-- 'sigillaw04.FpSums': WHATEVER THE INPUT: true; the input reads as it did. -/
def fpSumsSpec : ChangeSpec := { name := "fpSums", fn := fun _ => fun
  | [d1, d2] => { results := [.lit (.bool true)], args := [d1, d2] }
  | _ => none }
def fpSumsRow : OpenClaim := { program := "ytoemaicabljpfaa", sum := "79caf5da253b50064787c900da037a7ec7414ace4c1de63f5d23c22d52182522", func := "sigil/sigillaw04.FpSums", spec := "fpSums", inPlace := ["math/bits.Sub64", "math/bits.Add64"], unfollowed := true, recurses := true, apart := false }
def FpSumsSaid : Prop := fpSumsRow.holds Try.pinned (OpenSpec.ofChange fpSumsSpec)

/-- ITS FALSE NEIGHBOUR: 'it returns false'. Refute it at one input. -/
def fpSumsWrong : ChangeSpec := { name := "fpSums", fn := fun _ => fun
  | [d1, d2] => { results := [.lit (.bool false)], args := [d1, d2] }
  | _ => none }
def FpSumsWrongFalsely : Prop := fpSumsRow.holds Try.pinned (OpenSpec.ofChange fpSumsWrong)

/-- 'sigillaw04.FpField': WHATEVER THE INPUT: true; the input reads as it did. -/
def fpFieldSpec : ChangeSpec := { name := "fpField", fn := fun _ => fun
  | [d1, d2, d3] => { results := [.lit (.bool true)], args := [d1, d2, d3] }
  | _ => none }
def fpFieldRow : OpenClaim := { program := "ytoemaicabljpfaa", sum := "79caf5da253b50064787c900da037a7ec7414ace4c1de63f5d23c22d52182522", func := "sigil/sigillaw04.FpField", spec := "fpField", inPlace := ["math/bits.Sub64", "math/bits.Add64"], unfollowed := true, recurses := true, apart := false }
def FpFieldSaid : Prop := fpFieldRow.holds Try.pinned (OpenSpec.ofChange fpFieldSpec)

/-- ITS FALSE NEIGHBOUR: 'it returns false'. Refute it at one input. -/
def fpFieldWrong : ChangeSpec := { name := "fpField", fn := fun _ => fun
  | [d1, d2, d3] => { results := [.lit (.bool false)], args := [d1, d2, d3] }
  | _ => none }
def FpFieldWrongFalsely : Prop := fpFieldRow.holds Try.pinned (OpenSpec.ofChange fpFieldWrong)

/-- 'sigillaw04.FpUndoes': WHATEVER THE INPUT: true; the input reads as it did. -/
def fpUndoesSpec : ChangeSpec := { name := "fpUndoes", fn := fun _ => fun
  | [d1, d2] => { results := [.lit (.bool true)], args := [d1, d2] }
  | _ => none }
def fpUndoesRow : OpenClaim := { program := "ytoemaicabljpfaa", sum := "79caf5da253b50064787c900da037a7ec7414ace4c1de63f5d23c22d52182522", func := "sigil/sigillaw04.FpUndoes", spec := "fpUndoes", inPlace := ["math/bits.Sub64", "math/bits.Add64"], unfollowed := true, recurses := true, apart := false }
def FpUndoesSaid : Prop := fpUndoesRow.holds Try.pinned (OpenSpec.ofChange fpUndoesSpec)

/-- ITS FALSE NEIGHBOUR: 'it returns false'. Refute it at one input. -/
def fpUndoesWrong : ChangeSpec := { name := "fpUndoes", fn := fun _ => fun
  | [d1, d2] => { results := [.lit (.bool false)], args := [d1, d2] }
  | _ => none }
def FpUndoesWrongFalsely : Prop := fpUndoesRow.holds Try.pinned (OpenSpec.ofChange fpUndoesWrong)

/-- 'sigillaw04.FpBack': WHATEVER THE INPUT: true; the input reads as it did. -/
def fpBackSpec : ChangeSpec := { name := "fpBack", fn := fun _ => fun
  | [d1, d2] => { results := [.lit (.bool true)], args := [d1, d2] }
  | _ => none }
def fpBackRow : OpenClaim := { program := "ytoemaicabljpfaa", sum := "79caf5da253b50064787c900da037a7ec7414ace4c1de63f5d23c22d52182522", func := "sigil/sigillaw04.FpBack", spec := "fpBack", inPlace := ["math/bits.Sub64", "math/bits.Add64"], unfollowed := true, recurses := true, apart := false }
def FpBackSaid : Prop := fpBackRow.holds Try.pinned (OpenSpec.ofChange fpBackSpec)

/-- ITS FALSE NEIGHBOUR: 'it returns false'. Refute it at one input. -/
def fpBackWrong : ChangeSpec := { name := "fpBack", fn := fun _ => fun
  | [d1, d2] => { results := [.lit (.bool false)], args := [d1, d2] }
  | _ => none }
def FpBackWrongFalsely : Prop := fpBackRow.holds Try.pinned (OpenSpec.ofChange fpBackWrong)

/-- 'sigillaw04.FpFermat': WHATEVER THE INPUT: true; the input reads as it did. -/
def fpFermatSpec : ChangeSpec := { name := "fpFermat", fn := fun _ => fun
  | [d1, d2, d3] => { results := [.lit (.bool true)], args := [d1, d2, d3] }
  | _ => none }
def fpFermatRow : OpenClaim := { program := "ytoemaicabljpfaa", sum := "79caf5da253b50064787c900da037a7ec7414ace4c1de63f5d23c22d52182522", func := "sigil/sigillaw04.FpFermat", spec := "fpFermat", inPlace := ["math/bits.Sub64", "math/bits.Add64"], unfollowed := true, recurses := true, apart := false }
def FpFermatSaid : Prop := fpFermatRow.holds Try.pinned (OpenSpec.ofChange fpFermatSpec)

/-- ITS FALSE NEIGHBOUR: 'it returns false'. Refute it at one input. -/
def fpFermatWrong : ChangeSpec := { name := "fpFermat", fn := fun _ => fun
  | [d1, d2, d3] => { results := [.lit (.bool false)], args := [d1, d2, d3] }
  | _ => none }
def FpFermatWrongFalsely : Prop := fpFermatRow.holds Try.pinned (OpenSpec.ofChange fpFermatWrong)

/-- 'sigillaw04.FpBelow': WHATEVER THE INPUT: true; the input reads as it did. -/
def fpBelowSpec : ChangeSpec := { name := "fpBelow", fn := fun _ => fun
  | [d1, d2] => { results := [.lit (.bool true)], args := [d1, d2] }
  | _ => none }
def fpBelowRow : OpenClaim := { program := "ytoemaicabljpfaa", sum := "79caf5da253b50064787c900da037a7ec7414ace4c1de63f5d23c22d52182522", func := "sigil/sigillaw04.FpBelow", spec := "fpBelow", inPlace := ["math/bits.Sub64", "math/bits.Add64"], unfollowed := true, recurses := true, apart := false }
def FpBelowSaid : Prop := fpBelowRow.holds Try.pinned (OpenSpec.ofChange fpBelowSpec)

/-- ITS FALSE NEIGHBOUR: 'it returns false'. Refute it at one input. -/
def fpBelowWrong : ChangeSpec := { name := "fpBelow", fn := fun _ => fun
  | [d1, d2] => { results := [.lit (.bool false)], args := [d1, d2] }
  | _ => none }
def FpBelowWrongFalsely : Prop := fpBelowRow.holds Try.pinned (OpenSpec.ofChange fpBelowWrong)

/-- 'sigillaw05.FprootTells': WHATEVER THE INPUT: true; the input reads as it did. -/
def fprootTellsSpec : ChangeSpec := { name := "fprootTells", fn := fun _ => fun
  | [d] => { results := [.lit (.bool true)], args := [d] }
  | _ => none }
def fprootTellsRow : OpenClaim := { program := "ytoemaicabljpfaa", sum := "79caf5da253b50064787c900da037a7ec7414ace4c1de63f5d23c22d52182522", func := "sigil/sigillaw05.FprootTells", spec := "fprootTells", inPlace := ["math/bits.Sub64", "math/bits.Add64"], unfollowed := true, recurses := true, named := ["math/bits.divideError", "math/bits.overflowError"], apart := false }
def FprootTellsSaid : Prop := fprootTellsRow.holds Try.pinned (OpenSpec.ofChange fprootTellsSpec)

/-- ITS FALSE NEIGHBOUR: 'it returns false'. Refute it at one input. -/
def fprootTellsWrong : ChangeSpec := { name := "fprootTells", fn := fun _ => fun
  | [d] => { results := [.lit (.bool false)], args := [d] }
  | _ => none }
def FprootTellsWrongFalsely : Prop := fprootTellsRow.holds Try.pinned (OpenSpec.ofChange fprootTellsWrong)

/-- 'sigillaw04.FpProducts': WHATEVER THE INPUT: true; the input reads as it did. -/
def fpProductsSpec : ChangeSpec := { name := "fpProducts", fn := fun _ => fun
  | [d1, d2] => { results := [.lit (.bool true)], args := [d1, d2] }
  | _ => none }
def fpProductsRow : OpenClaim := { program := "ytoemaicabljpfaa", sum := "79caf5da253b50064787c900da037a7ec7414ace4c1de63f5d23c22d52182522", func := "sigil/sigillaw04.FpProducts", spec := "fpProducts", inPlace := ["math/bits.Sub64", "math/bits.Add64"], unfollowed := true, recurses := true, named := ["math/bits.divideError", "math/bits.overflowError"], apart := false }
def FpProductsSaid : Prop := fpProductsRow.holds Try.pinned (OpenSpec.ofChange fpProductsSpec)

/-- ITS FALSE NEIGHBOUR: 'it returns false'. Refute it at one input. -/
def fpProductsWrong : ChangeSpec := { name := "fpProducts", fn := fun _ => fun
  | [d1, d2] => { results := [.lit (.bool false)], args := [d1, d2] }
  | _ => none }
def FpProductsWrongFalsely : Prop := fpProductsRow.holds Try.pinned (OpenSpec.ofChange fpProductsWrong)

/-- 'sigillaw04.FpOctets': WHATEVER THE INPUT: true; the input reads as it did. -/
def fpOctetsSpec : ChangeSpec := { name := "fpOctets", fn := fun _ => fun
  | [d1, d2] => { results := [.lit (.bool true)], args := [d1, d2] }
  | _ => none }
def fpOctetsRow : OpenClaim := { program := "ytoemaicabljpfaa", sum := "79caf5da253b50064787c900da037a7ec7414ace4c1de63f5d23c22d52182522", func := "sigil/sigillaw04.FpOctets", spec := "fpOctets", inPlace := ["math/bits.Sub64", "math/bits.Add64"], unfollowed := true, recurses := true, named := ["math/bits.divideError", "math/bits.overflowError"], apart := false }
def FpOctetsSaid : Prop := fpOctetsRow.holds Try.pinned (OpenSpec.ofChange fpOctetsSpec)

/-- ITS FALSE NEIGHBOUR: 'it returns false'. Refute it at one input. -/
def fpOctetsWrong : ChangeSpec := { name := "fpOctets", fn := fun _ => fun
  | [d1, d2] => { results := [.lit (.bool false)], args := [d1, d2] }
  | _ => none }
def FpOctetsWrongFalsely : Prop := fpOctetsRow.holds Try.pinned (OpenSpec.ofChange fpOctetsWrong)

/-- 'sigillaw12.G1Names': WHATEVER THE INPUT: true; the input reads as it did. -/
def g1NamesSpec : ChangeSpec := { name := "g1Names", fn := fun _ => fun
  | [] => { results := [.lit (.bool true)], args := [] }
  | _ => none }
def g1NamesRow : OpenClaim := { program := "ytoemaicabljpfaa", sum := "79caf5da253b50064787c900da037a7ec7414ace4c1de63f5d23c22d52182522", func := "sigil/sigillaw12.G1Names", spec := "g1Names", inPlace := ["math/bits.Sub64", "math/bits.Add64"], unfollowed := true, recurses := true, apart := false }
def G1NamesSaid : Prop := g1NamesRow.holds Try.pinned (OpenSpec.ofChange g1NamesSpec)

/-- ITS FALSE NEIGHBOUR: 'it returns false'. Refute it at one input. -/
def g1NamesWrong : ChangeSpec := { name := "g1Names", fn := fun _ => fun
  | [] => { results := [.lit (.bool false)], args := [] }
  | _ => none }
def G1NamesWrongFalsely : Prop := g1NamesRow.holds Try.pinned (OpenSpec.ofChange g1NamesWrong)

/-- 'sigillaw12.G1Closed': WHATEVER THE INPUT: true; the input reads as it did. -/
def g1ClosedSpec : ChangeSpec := { name := "g1Closed", fn := fun _ => fun
  | [d1, d2, d3] => { results := [.lit (.bool true)], args := [d1, d2, d3] }
  | _ => none }
def g1ClosedRow : OpenClaim := { program := "ytoemaicabljpfaa", sum := "79caf5da253b50064787c900da037a7ec7414ace4c1de63f5d23c22d52182522", func := "sigil/sigillaw12.G1Closed", spec := "g1Closed", inPlace := ["math/bits.Sub64", "math/bits.Add64"], unfollowed := true, recurses := true, apart := false }
def G1ClosedSaid : Prop := g1ClosedRow.holds Try.pinned (OpenSpec.ofChange g1ClosedSpec)

/-- ITS FALSE NEIGHBOUR: 'it returns false'. Refute it at one input. -/
def g1ClosedWrong : ChangeSpec := { name := "g1Closed", fn := fun _ => fun
  | [d1, d2, d3] => { results := [.lit (.bool false)], args := [d1, d2, d3] }
  | _ => none }
def G1ClosedWrongFalsely : Prop := g1ClosedRow.holds Try.pinned (OpenSpec.ofChange g1ClosedWrong)

/-- 'sigillaw12.G1Undoes': WHATEVER THE INPUT: true; the input reads as it did. -/
def g1UndoesSpec : ChangeSpec := { name := "g1Undoes", fn := fun _ => fun
  | [d1, d2] => { results := [.lit (.bool true)], args := [d1, d2] }
  | _ => none }
def g1UndoesRow : OpenClaim := { program := "ytoemaicabljpfaa", sum := "79caf5da253b50064787c900da037a7ec7414ace4c1de63f5d23c22d52182522", func := "sigil/sigillaw12.G1Undoes", spec := "g1Undoes", inPlace := ["math/bits.Sub64", "math/bits.Add64"], unfollowed := true, recurses := true, apart := false }
def G1UndoesSaid : Prop := g1UndoesRow.holds Try.pinned (OpenSpec.ofChange g1UndoesSpec)

/-- ITS FALSE NEIGHBOUR: 'it returns false'. Refute it at one input. -/
def g1UndoesWrong : ChangeSpec := { name := "g1Undoes", fn := fun _ => fun
  | [d1, d2] => { results := [.lit (.bool false)], args := [d1, d2] }
  | _ => none }
def G1UndoesWrongFalsely : Prop := g1UndoesRow.holds Try.pinned (OpenSpec.ofChange g1UndoesWrong)

/-- 'sigillaw12.G1Brackets': WHATEVER THE INPUT: true; the input reads as it did. -/
def g1BracketsSpec : ChangeSpec := { name := "g1Brackets", fn := fun _ => fun
  | [d1, d2, d3] => { results := [.lit (.bool true)], args := [d1, d2, d3] }
  | _ => none }
def g1BracketsRow : OpenClaim := { program := "ytoemaicabljpfaa", sum := "79caf5da253b50064787c900da037a7ec7414ace4c1de63f5d23c22d52182522", func := "sigil/sigillaw12.G1Brackets", spec := "g1Brackets", inPlace := ["math/bits.Sub64", "math/bits.Add64"], unfollowed := true, recurses := true, apart := false }
def G1BracketsSaid : Prop := g1BracketsRow.holds Try.pinned (OpenSpec.ofChange g1BracketsSpec)

/-- ITS FALSE NEIGHBOUR: 'it returns false'. Refute it at one input. -/
def g1BracketsWrong : ChangeSpec := { name := "g1Brackets", fn := fun _ => fun
  | [d1, d2, d3] => { results := [.lit (.bool false)], args := [d1, d2, d3] }
  | _ => none }
def G1BracketsWrongFalsely : Prop := g1BracketsRow.holds Try.pinned (OpenSpec.ofChange g1BracketsWrong)

/-- 'sigillaw12.G1Steps': WHATEVER THE INPUT: true; the input reads as it did. -/
def g1StepsSpec : ChangeSpec := { name := "g1Steps", fn := fun _ => fun
  | [d1, d2, d3] => { results := [.lit (.bool true)], args := [d1, d2, d3] }
  | _ => none }
def g1StepsRow : OpenClaim := { program := "ytoemaicabljpfaa", sum := "79caf5da253b50064787c900da037a7ec7414ace4c1de63f5d23c22d52182522", func := "sigil/sigillaw12.G1Steps", spec := "g1Steps", inPlace := ["math/bits.Sub64", "math/bits.Add64"], unfollowed := true, recurses := true, apart := false }
def G1StepsSaid : Prop := g1StepsRow.holds Try.pinned (OpenSpec.ofChange g1StepsSpec)

/-- ITS FALSE NEIGHBOUR: 'it returns false'. Refute it at one input. -/
def g1StepsWrong : ChangeSpec := { name := "g1Steps", fn := fun _ => fun
  | [d1, d2, d3] => { results := [.lit (.bool false)], args := [d1, d2, d3] }
  | _ => none }
def G1StepsWrongFalsely : Prop := g1StepsRow.holds Try.pinned (OpenSpec.ofChange g1StepsWrong)

/-- 'sigillaw04.FpPowers': WHATEVER THE INPUT: true; the input reads as it did. -/
def fpPowersSpec : ChangeSpec := { name := "fpPowers", fn := fun _ => fun
  | [d1, d2, d3] => { results := [.lit (.bool true)], args := [d1, d2, d3] }
  | _ => none }
def fpPowersRow : OpenClaim := { program := "ytoemaicabljpfaa", sum := "79caf5da253b50064787c900da037a7ec7414ace4c1de63f5d23c22d52182522", func := "sigil/sigillaw04.FpPowers", spec := "fpPowers", inPlace := ["math/bits.Sub64", "math/bits.Add64"], unfollowed := true, recurses := true, named := ["math/bits.divideError", "math/bits.overflowError"], apart := false }
def FpPowersSaid : Prop := fpPowersRow.holds Try.pinned (OpenSpec.ofChange fpPowersSpec)

/-- ITS FALSE NEIGHBOUR: 'it returns false'. Refute it at one input. -/
def fpPowersWrong : ChangeSpec := { name := "fpPowers", fn := fun _ => fun
  | [d1, d2, d3] => { results := [.lit (.bool false)], args := [d1, d2, d3] }
  | _ => none }
def FpPowersWrongFalsely : Prop := fpPowersRow.holds Try.pinned (OpenSpec.ofChange fpPowersWrong)

/-- 'sigillaw12.G1Adds': WHATEVER THE INPUT: true; the input reads as it did. -/
def g1AddsSpec : ChangeSpec := { name := "g1Adds", fn := fun _ => fun
  | [d1, d2] => { results := [.lit (.bool true)], args := [d1, d2] }
  | _ => none }
def g1AddsRow : OpenClaim := { program := "ytoemaicabljpfaa", sum := "79caf5da253b50064787c900da037a7ec7414ace4c1de63f5d23c22d52182522", func := "sigil/sigillaw12.G1Adds", spec := "g1Adds", inPlace := ["math/bits.Sub64", "math/bits.Add64"], unfollowed := true, recurses := true, named := ["math/bits.divideError", "math/bits.overflowError"], apart := false }
def G1AddsSaid : Prop := g1AddsRow.holds Try.pinned (OpenSpec.ofChange g1AddsSpec)

/-- ITS FALSE NEIGHBOUR: 'it returns false'. Refute it at one input. -/
def g1AddsWrong : ChangeSpec := { name := "g1Adds", fn := fun _ => fun
  | [d1, d2] => { results := [.lit (.bool false)], args := [d1, d2] }
  | _ => none }
def G1AddsWrongFalsely : Prop := g1AddsRow.holds Try.pinned (OpenSpec.ofChange g1AddsWrong)

/-- 'sigillaw12.G1Muls': WHATEVER THE INPUT: true; the input reads as it did. -/
def g1MulsSpec : ChangeSpec := { name := "g1Muls", fn := fun _ => fun
  | [d1, d2] => { results := [.lit (.bool true)], args := [d1, d2] }
  | _ => none }
def g1MulsRow : OpenClaim := { program := "ytoemaicabljpfaa", sum := "79caf5da253b50064787c900da037a7ec7414ace4c1de63f5d23c22d52182522", func := "sigil/sigillaw12.G1Muls", spec := "g1Muls", inPlace := ["math/bits.Sub64", "math/bits.Add64"], unfollowed := true, recurses := true, named := ["math/bits.divideError", "math/bits.overflowError"], apart := false }
def G1MulsSaid : Prop := g1MulsRow.holds Try.pinned (OpenSpec.ofChange g1MulsSpec)

/-- ITS FALSE NEIGHBOUR: 'it returns false'. Refute it at one input. -/
def g1MulsWrong : ChangeSpec := { name := "g1Muls", fn := fun _ => fun
  | [d1, d2] => { results := [.lit (.bool false)], args := [d1, d2] }
  | _ => none }
def G1MulsWrongFalsely : Prop := g1MulsRow.holds Try.pinned (OpenSpec.ofChange g1MulsWrong)

/-- 'sigillaw12.G1Sums': WHATEVER THE INPUT: true; the input reads as it did. -/
def g1SumsSpec : ChangeSpec := { name := "g1Sums", fn := fun _ => fun
  | [d1, d2] => { results := [.lit (.bool true)], args := [d1, d2] }
  | _ => none }
def g1SumsRow : OpenClaim := { program := "ytoemaicabljpfaa", sum := "79caf5da253b50064787c900da037a7ec7414ace4c1de63f5d23c22d52182522", func := "sigil/sigillaw12.G1Sums", spec := "g1Sums", inPlace := ["math/bits.Sub64", "math/bits.Add64"], unfollowed := true, recurses := true, named := ["math/bits.divideError", "math/bits.overflowError"], apart := false }
def G1SumsSaid : Prop := g1SumsRow.holds Try.pinned (OpenSpec.ofChange g1SumsSpec)

/-- ITS FALSE NEIGHBOUR: 'it returns false'. Refute it at one input. -/
def g1SumsWrong : ChangeSpec := { name := "g1Sums", fn := fun _ => fun
  | [d1, d2] => { results := [.lit (.bool false)], args := [d1, d2] }
  | _ => none }
def G1SumsWrongFalsely : Prop := g1SumsRow.holds Try.pinned (OpenSpec.ofChange g1SumsWrong)

/- THE SECOND FORM. 'bulk': how many values and letters a reading holds, each counted each time it is reached (what is shared counts as often as it is met; a slice's spare places count too). A statement '..UptoSaid' is the law's where the arguments, and the package variables that the reading takes, are together of bulk at most 1048576: NARROWER than '..Said'. Prove '..Said' where nothing that the law and all that it calls make is longer than what came in: it says more and counts as full. Else prove '..UptoSaid'. A law counts once. -/
mutual
def uptoBulk {H : Type} : DataW H → Nat
  | .lit (.string bytes) => bytes.length + 1
  | .lit _ => 1
  | .nil => 1
  | .ptr d => uptoBulk d + 1
  | .slice elems spare => uptoBulkAll elems + uptoBulkAll spare + 1
  | .agg parts => uptoBulkAll parts + 1
  | .iface _ d => uptoBulk d + 1
  | .map entries => uptoBulkEntries entries + 1
  | .held _ => 1
def uptoBulkAll {H : Type} : List (DataW H) → Nat
  | [] => 0
  | d :: r => uptoBulk d + uptoBulkAll r
def uptoBulkEntries {H : Type} : List (Lit × DataW H) → Nat
  | [] => 0
  | x :: r => uptoBulkEntry x + uptoBulkEntries r
def uptoBulkEntry {H : Type} : Lit × DataW H → Nat
  | (.string bytes, d) => bytes.length + uptoBulk d + 1
  | (_, d) => uptoBulk d + 1
 end
def uptoSmall : (H : Type) → List (DataW H) → Bool := fun _ ds => decide (uptoBulkAll ds ≤ 1048576)
def OpenSpec.upto (s : _root_.Go.ChangeSpec) : _root_.Go.OpenSpec := { _root_.Go.OpenSpec.ofChange s with cond := some uptoSmall }

/-- 'sigillaw05.FprootBack', WHERE WHAT IT READS IS OF BULK AT MOST 1048576: true; the input reads as it did. -/
def fprootBackUptoRow : OpenClaim := { program := "ytoemaicabljpfaa", sum := "79caf5da253b50064787c900da037a7ec7414ace4c1de63f5d23c22d52182522", func := "sigil/sigillaw05.FprootBack", spec := "fprootBack", inPlace := ["math/bits.Sub64", "math/bits.Add64"], unfollowed := true, recurses := true, apart := false, narrowed := true }
def FprootBackUptoSaid : Prop := fprootBackUptoRow.holds Try.pinned (OpenSpec.upto fprootBackSpec)

/-- 'sigillaw05.FprootOne', WHERE WHAT IT READS IS OF BULK AT MOST 1048576: true; the input reads as it did. -/
def fprootOneUptoRow : OpenClaim := { program := "ytoemaicabljpfaa", sum := "79caf5da253b50064787c900da037a7ec7414ace4c1de63f5d23c22d52182522", func := "sigil/sigillaw05.FprootOne", spec := "fprootOne", inPlace := ["math/bits.Sub64", "math/bits.Add64"], unfollowed := true, recurses := true, apart := false, narrowed := true }
def FprootOneUptoSaid : Prop := fprootOneUptoRow.holds Try.pinned (OpenSpec.upto fprootOneSpec)

/-- 'sigillaw05.FprootProducts', WHERE WHAT IT READS IS OF BULK AT MOST 1048576: true; the input reads as it did. -/
def fprootProductsUptoRow : OpenClaim := { program := "ytoemaicabljpfaa", sum := "79caf5da253b50064787c900da037a7ec7414ace4c1de63f5d23c22d52182522", func := "sigil/sigillaw05.FprootProducts", spec := "fprootProducts", inPlace := ["math/bits.Sub64", "math/bits.Add64"], unfollowed := true, recurses := true, apart := false, narrowed := true }
def FprootProductsUptoSaid : Prop := fprootProductsUptoRow.holds Try.pinned (OpenSpec.upto fprootProductsSpec)

/-- 'sigillaw05.FprootSides', WHERE WHAT IT READS IS OF BULK AT MOST 1048576: true; the input reads as it did. -/
def fprootSidesUptoRow : OpenClaim := { program := "ytoemaicabljpfaa", sum := "79caf5da253b50064787c900da037a7ec7414ace4c1de63f5d23c22d52182522", func := "sigil/sigillaw05.FprootSides", spec := "fprootSides", inPlace := ["math/bits.Sub64", "math/bits.Add64"], unfollowed := true, recurses := true, apart := false, narrowed := true }
def FprootSidesUptoSaid : Prop := fprootSidesUptoRow.holds Try.pinned (OpenSpec.upto fprootSidesSpec)

/-- 'sigillaw04.FpNames', WHERE WHAT IT READS IS OF BULK AT MOST 1048576: true; the input reads as it did. -/
def fpNamesUptoRow : OpenClaim := { program := "ytoemaicabljpfaa", sum := "79caf5da253b50064787c900da037a7ec7414ace4c1de63f5d23c22d52182522", func := "sigil/sigillaw04.FpNames", spec := "fpNames", inPlace := ["math/bits.Sub64", "math/bits.Add64"], unfollowed := true, recurses := true, apart := false, narrowed := true }
def FpNamesUptoSaid : Prop := fpNamesUptoRow.holds Try.pinned (OpenSpec.upto fpNamesSpec)

/-- 'sigillaw04.FpSums', WHERE WHAT IT READS IS OF BULK AT MOST 1048576: true; the input reads as it did. -/
def fpSumsUptoRow : OpenClaim := { program := "ytoemaicabljpfaa", sum := "79caf5da253b50064787c900da037a7ec7414ace4c1de63f5d23c22d52182522", func := "sigil/sigillaw04.FpSums", spec := "fpSums", inPlace := ["math/bits.Sub64", "math/bits.Add64"], unfollowed := true, recurses := true, apart := false, narrowed := true }
def FpSumsUptoSaid : Prop := fpSumsUptoRow.holds Try.pinned (OpenSpec.upto fpSumsSpec)

/-- 'sigillaw04.FpField', WHERE WHAT IT READS IS OF BULK AT MOST 1048576: true; the input reads as it did. -/
def fpFieldUptoRow : OpenClaim := { program := "ytoemaicabljpfaa", sum := "79caf5da253b50064787c900da037a7ec7414ace4c1de63f5d23c22d52182522", func := "sigil/sigillaw04.FpField", spec := "fpField", inPlace := ["math/bits.Sub64", "math/bits.Add64"], unfollowed := true, recurses := true, apart := false, narrowed := true }
def FpFieldUptoSaid : Prop := fpFieldUptoRow.holds Try.pinned (OpenSpec.upto fpFieldSpec)

/-- 'sigillaw04.FpUndoes', WHERE WHAT IT READS IS OF BULK AT MOST 1048576: true; the input reads as it did. -/
def fpUndoesUptoRow : OpenClaim := { program := "ytoemaicabljpfaa", sum := "79caf5da253b50064787c900da037a7ec7414ace4c1de63f5d23c22d52182522", func := "sigil/sigillaw04.FpUndoes", spec := "fpUndoes", inPlace := ["math/bits.Sub64", "math/bits.Add64"], unfollowed := true, recurses := true, apart := false, narrowed := true }
def FpUndoesUptoSaid : Prop := fpUndoesUptoRow.holds Try.pinned (OpenSpec.upto fpUndoesSpec)

/-- 'sigillaw04.FpBack', WHERE WHAT IT READS IS OF BULK AT MOST 1048576: true; the input reads as it did. -/
def fpBackUptoRow : OpenClaim := { program := "ytoemaicabljpfaa", sum := "79caf5da253b50064787c900da037a7ec7414ace4c1de63f5d23c22d52182522", func := "sigil/sigillaw04.FpBack", spec := "fpBack", inPlace := ["math/bits.Sub64", "math/bits.Add64"], unfollowed := true, recurses := true, apart := false, narrowed := true }
def FpBackUptoSaid : Prop := fpBackUptoRow.holds Try.pinned (OpenSpec.upto fpBackSpec)

/-- 'sigillaw04.FpFermat', WHERE WHAT IT READS IS OF BULK AT MOST 1048576: true; the input reads as it did. -/
def fpFermatUptoRow : OpenClaim := { program := "ytoemaicabljpfaa", sum := "79caf5da253b50064787c900da037a7ec7414ace4c1de63f5d23c22d52182522", func := "sigil/sigillaw04.FpFermat", spec := "fpFermat", inPlace := ["math/bits.Sub64", "math/bits.Add64"], unfollowed := true, recurses := true, apart := false, narrowed := true }
def FpFermatUptoSaid : Prop := fpFermatUptoRow.holds Try.pinned (OpenSpec.upto fpFermatSpec)

/-- 'sigillaw04.FpBelow', WHERE WHAT IT READS IS OF BULK AT MOST 1048576: true; the input reads as it did. -/
def fpBelowUptoRow : OpenClaim := { program := "ytoemaicabljpfaa", sum := "79caf5da253b50064787c900da037a7ec7414ace4c1de63f5d23c22d52182522", func := "sigil/sigillaw04.FpBelow", spec := "fpBelow", inPlace := ["math/bits.Sub64", "math/bits.Add64"], unfollowed := true, recurses := true, apart := false, narrowed := true }
def FpBelowUptoSaid : Prop := fpBelowUptoRow.holds Try.pinned (OpenSpec.upto fpBelowSpec)

/-- 'sigillaw05.FprootTells', WHERE WHAT IT READS IS OF BULK AT MOST 1048576: true; the input reads as it did. -/
def fprootTellsUptoRow : OpenClaim := { program := "ytoemaicabljpfaa", sum := "79caf5da253b50064787c900da037a7ec7414ace4c1de63f5d23c22d52182522", func := "sigil/sigillaw05.FprootTells", spec := "fprootTells", inPlace := ["math/bits.Sub64", "math/bits.Add64"], unfollowed := true, recurses := true, named := ["math/bits.divideError", "math/bits.overflowError"], apart := false, narrowed := true }
def FprootTellsUptoSaid : Prop := fprootTellsUptoRow.holds Try.pinned (OpenSpec.upto fprootTellsSpec)

/-- 'sigillaw04.FpProducts', WHERE WHAT IT READS IS OF BULK AT MOST 1048576: true; the input reads as it did. -/
def fpProductsUptoRow : OpenClaim := { program := "ytoemaicabljpfaa", sum := "79caf5da253b50064787c900da037a7ec7414ace4c1de63f5d23c22d52182522", func := "sigil/sigillaw04.FpProducts", spec := "fpProducts", inPlace := ["math/bits.Sub64", "math/bits.Add64"], unfollowed := true, recurses := true, named := ["math/bits.divideError", "math/bits.overflowError"], apart := false, narrowed := true }
def FpProductsUptoSaid : Prop := fpProductsUptoRow.holds Try.pinned (OpenSpec.upto fpProductsSpec)

/-- 'sigillaw04.FpOctets', WHERE WHAT IT READS IS OF BULK AT MOST 1048576: true; the input reads as it did. -/
def fpOctetsUptoRow : OpenClaim := { program := "ytoemaicabljpfaa", sum := "79caf5da253b50064787c900da037a7ec7414ace4c1de63f5d23c22d52182522", func := "sigil/sigillaw04.FpOctets", spec := "fpOctets", inPlace := ["math/bits.Sub64", "math/bits.Add64"], unfollowed := true, recurses := true, named := ["math/bits.divideError", "math/bits.overflowError"], apart := false, narrowed := true }
def FpOctetsUptoSaid : Prop := fpOctetsUptoRow.holds Try.pinned (OpenSpec.upto fpOctetsSpec)

/-- 'sigillaw12.G1Names', WHERE WHAT IT READS IS OF BULK AT MOST 1048576: true; the input reads as it did. -/
def g1NamesUptoRow : OpenClaim := { program := "ytoemaicabljpfaa", sum := "79caf5da253b50064787c900da037a7ec7414ace4c1de63f5d23c22d52182522", func := "sigil/sigillaw12.G1Names", spec := "g1Names", inPlace := ["math/bits.Sub64", "math/bits.Add64"], unfollowed := true, recurses := true, apart := false, narrowed := true }
def G1NamesUptoSaid : Prop := g1NamesUptoRow.holds Try.pinned (OpenSpec.upto g1NamesSpec)

/-- 'sigillaw12.G1Closed', WHERE WHAT IT READS IS OF BULK AT MOST 1048576: true; the input reads as it did. -/
def g1ClosedUptoRow : OpenClaim := { program := "ytoemaicabljpfaa", sum := "79caf5da253b50064787c900da037a7ec7414ace4c1de63f5d23c22d52182522", func := "sigil/sigillaw12.G1Closed", spec := "g1Closed", inPlace := ["math/bits.Sub64", "math/bits.Add64"], unfollowed := true, recurses := true, apart := false, narrowed := true }
def G1ClosedUptoSaid : Prop := g1ClosedUptoRow.holds Try.pinned (OpenSpec.upto g1ClosedSpec)

/-- 'sigillaw12.G1Undoes', WHERE WHAT IT READS IS OF BULK AT MOST 1048576: true; the input reads as it did. -/
def g1UndoesUptoRow : OpenClaim := { program := "ytoemaicabljpfaa", sum := "79caf5da253b50064787c900da037a7ec7414ace4c1de63f5d23c22d52182522", func := "sigil/sigillaw12.G1Undoes", spec := "g1Undoes", inPlace := ["math/bits.Sub64", "math/bits.Add64"], unfollowed := true, recurses := true, apart := false, narrowed := true }
def G1UndoesUptoSaid : Prop := g1UndoesUptoRow.holds Try.pinned (OpenSpec.upto g1UndoesSpec)

/-- 'sigillaw12.G1Brackets', WHERE WHAT IT READS IS OF BULK AT MOST 1048576: true; the input reads as it did. -/
def g1BracketsUptoRow : OpenClaim := { program := "ytoemaicabljpfaa", sum := "79caf5da253b50064787c900da037a7ec7414ace4c1de63f5d23c22d52182522", func := "sigil/sigillaw12.G1Brackets", spec := "g1Brackets", inPlace := ["math/bits.Sub64", "math/bits.Add64"], unfollowed := true, recurses := true, apart := false, narrowed := true }
def G1BracketsUptoSaid : Prop := g1BracketsUptoRow.holds Try.pinned (OpenSpec.upto g1BracketsSpec)

/-- 'sigillaw12.G1Steps', WHERE WHAT IT READS IS OF BULK AT MOST 1048576: true; the input reads as it did. -/
def g1StepsUptoRow : OpenClaim := { program := "ytoemaicabljpfaa", sum := "79caf5da253b50064787c900da037a7ec7414ace4c1de63f5d23c22d52182522", func := "sigil/sigillaw12.G1Steps", spec := "g1Steps", inPlace := ["math/bits.Sub64", "math/bits.Add64"], unfollowed := true, recurses := true, apart := false, narrowed := true }
def G1StepsUptoSaid : Prop := g1StepsUptoRow.holds Try.pinned (OpenSpec.upto g1StepsSpec)

/-- 'sigillaw04.FpPowers', WHERE WHAT IT READS IS OF BULK AT MOST 1048576: true; the input reads as it did. -/
def fpPowersUptoRow : OpenClaim := { program := "ytoemaicabljpfaa", sum := "79caf5da253b50064787c900da037a7ec7414ace4c1de63f5d23c22d52182522", func := "sigil/sigillaw04.FpPowers", spec := "fpPowers", inPlace := ["math/bits.Sub64", "math/bits.Add64"], unfollowed := true, recurses := true, named := ["math/bits.divideError", "math/bits.overflowError"], apart := false, narrowed := true }
def FpPowersUptoSaid : Prop := fpPowersUptoRow.holds Try.pinned (OpenSpec.upto fpPowersSpec)

/-- 'sigillaw12.G1Adds', WHERE WHAT IT READS IS OF BULK AT MOST 1048576: true; the input reads as it did. -/
def g1AddsUptoRow : OpenClaim := { program := "ytoemaicabljpfaa", sum := "79caf5da253b50064787c900da037a7ec7414ace4c1de63f5d23c22d52182522", func := "sigil/sigillaw12.G1Adds", spec := "g1Adds", inPlace := ["math/bits.Sub64", "math/bits.Add64"], unfollowed := true, recurses := true, named := ["math/bits.divideError", "math/bits.overflowError"], apart := false, narrowed := true }
def G1AddsUptoSaid : Prop := g1AddsUptoRow.holds Try.pinned (OpenSpec.upto g1AddsSpec)

/-- 'sigillaw12.G1Muls', WHERE WHAT IT READS IS OF BULK AT MOST 1048576: true; the input reads as it did. -/
def g1MulsUptoRow : OpenClaim := { program := "ytoemaicabljpfaa", sum := "79caf5da253b50064787c900da037a7ec7414ace4c1de63f5d23c22d52182522", func := "sigil/sigillaw12.G1Muls", spec := "g1Muls", inPlace := ["math/bits.Sub64", "math/bits.Add64"], unfollowed := true, recurses := true, named := ["math/bits.divideError", "math/bits.overflowError"], apart := false, narrowed := true }
def G1MulsUptoSaid : Prop := g1MulsUptoRow.holds Try.pinned (OpenSpec.upto g1MulsSpec)

/-- 'sigillaw12.G1Sums', WHERE WHAT IT READS IS OF BULK AT MOST 1048576: true; the input reads as it did. -/
def g1SumsUptoRow : OpenClaim := { program := "ytoemaicabljpfaa", sum := "79caf5da253b50064787c900da037a7ec7414ace4c1de63f5d23c22d52182522", func := "sigil/sigillaw12.G1Sums", spec := "g1Sums", inPlace := ["math/bits.Sub64", "math/bits.Add64"], unfollowed := true, recurses := true, named := ["math/bits.divideError", "math/bits.overflowError"], apart := false, narrowed := true }
def G1SumsUptoSaid : Prop := g1SumsUptoRow.holds Try.pinned (OpenSpec.upto g1SumsSpec)

end Rows
end Go.Proofs.Ytoemaicabljpfaa
