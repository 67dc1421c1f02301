/-
  No cell of these rows narrows 'for every input' (looked for: loops, veiled, ifaces, maps, wideKeys, modest, calm, conditions, laid).
  DERIVED. THE GIVEN ROWS OF THIS SEAT. 8 by the template 'for every input the law returns true; each argument reads behind the call as it read before'; 0 by the template 'total and deterministic' (their statements: YtccmbnbphianbaaTotals.lean).
  GIVEN WITH THE SEED: the statements are not yours to turn. If you find one false, say at which input.
  Laid BY PROGRAM, IN A SANDBOX (cutbox-rows.mjs): the forced cells as the released guide's own fill.sh prints them over the translation 7725527e4a2c93f3… (all of the seat's roots in one cut). By AI agents, Wed Nov 11 2026. No macro, syntax, notation, axiom, sorry.
-/
import Derived.Test.YtccmbnbphianbaaChecked
import GoSem.Claim
import GoSem.ClaimJoined
import GoSem.ClaimMapViews
import Derived.JoinedTies
import Derived.KernelRfl
namespace Go.Proofs.Ytccmbnbphianbaa
/- THE CELL 'sum', in the pinned program and in every row, IS THE sha256 OF THE DUMP (.gsa) THAT YtccmbnbphianbaaProg.lean LOADS. Nothing in Lean hashes anything: it is a label: what it is worth is what the hold of that sum in a sandbox is worth. -/
noncomputable def Try.pinned : Pinned := { name := "ytccmbnbphianbaa", sum := "7725527e4a2c93f31b6d9a2bb68b42916aedd5711fae4fbaabf09a87c8a26986", checked := Try.checked }
namespace Rows
def none {H : Type} : Left H := { results := [], args := [] }

/-- 'sigillaw12.G1Sums': WHATEVER THE INPUT: true; the input reads as it did. -/
def g1SumsSpec : ChangeSpec := { name := "g1Sums", fn := fun _ => fun
  | [d1, d2] => { results := [.lit (.bool true)], args := [d1, d2] }
  | _ => none }
def g1SumsRow : OpenClaim := { program := "ytccmbnbphianbaa", sum := "7725527e4a2c93f31b6d9a2bb68b42916aedd5711fae4fbaabf09a87c8a26986", func := "sigil/sigillaw12.G1Sums", spec := "g1Sums", inPlace := ["math/bits.Sub64", "math/bits.Add64"], unfollowed := true, recurses := true, named := ["math/bits.divideError", "math/bits.overflowError"], apart := false }
def G1SumsSaid : Prop := g1SumsRow.holds Try.pinned (OpenSpec.ofChange g1SumsSpec)

/-- ITS FALSE NEIGHBOUR: 'it returns false'. Refute it at one input. -/
def g1SumsWrong : ChangeSpec := { name := "g1Sums", fn := fun _ => fun
  | [d1, d2] => { results := [.lit (.bool false)], args := [d1, d2] }
  | _ => none }
def G1SumsWrongFalsely : Prop := g1SumsRow.holds Try.pinned (OpenSpec.ofChange g1SumsWrong)

/-- 'sigillaw20.CodecNames': WHATEVER THE INPUT: true; the input reads as it did. -/
def codecNamesSpec : ChangeSpec := { name := "codecNames", fn := fun _ => fun
  | [] => { results := [.lit (.bool true)], args := [] }
  | _ => none }
def codecNamesRow : OpenClaim := { program := "ytccmbnbphianbaa", sum := "7725527e4a2c93f31b6d9a2bb68b42916aedd5711fae4fbaabf09a87c8a26986", func := "sigil/sigillaw20.CodecNames", spec := "codecNames", inPlace := ["math/bits.Sub64", "math/bits.Add64"], unfollowed := true, recurses := true, apart := false }
def CodecNamesSaid : Prop := codecNamesRow.holds Try.pinned (OpenSpec.ofChange codecNamesSpec)

/-- ITS FALSE NEIGHBOUR: 'it returns false'. Refute it at one input. -/
def codecNamesWrong : ChangeSpec := { name := "codecNames", fn := fun _ => fun
  | [] => { results := [.lit (.bool false)], args := [] }
  | _ => none }
def CodecNamesWrongFalsely : Prop := codecNamesRow.holds Try.pinned (OpenSpec.ofChange codecNamesWrong)

/-- 'sigillaw20.CodecBack1': WHATEVER THE INPUT: true; the input reads as it did. -/
def codecBack1Spec : ChangeSpec := { name := "codecBack1", fn := fun _ => fun
  | [d1, d2] => { results := [.lit (.bool true)], args := [d1, d2] }
  | _ => none }
def codecBack1Row : OpenClaim := { program := "ytccmbnbphianbaa", sum := "7725527e4a2c93f31b6d9a2bb68b42916aedd5711fae4fbaabf09a87c8a26986", func := "sigil/sigillaw20.CodecBack1", spec := "codecBack1", inPlace := ["math/bits.Sub64", "math/bits.Add64"], unfollowed := true, recurses := true, apart := false }
def CodecBack1Said : Prop := codecBack1Row.holds Try.pinned (OpenSpec.ofChange codecBack1Spec)

/-- ITS FALSE NEIGHBOUR: 'it returns false'. Refute it at one input. -/
def codecBack1Wrong : ChangeSpec := { name := "codecBack1", fn := fun _ => fun
  | [d1, d2] => { results := [.lit (.bool false)], args := [d1, d2] }
  | _ => none }
def CodecBack1WrongFalsely : Prop := codecBack1Row.holds Try.pinned (OpenSpec.ofChange codecBack1Wrong)

/-- 'sigillaw20.CodecBytes1': WHATEVER THE INPUT: true; the input reads as it did. -/
def codecBytes1Spec : ChangeSpec := { name := "codecBytes1", fn := fun _ => fun
  | [d1, d2] => { results := [.lit (.bool true)], args := [d1, d2] }
  | _ => none }
def codecBytes1Row : OpenClaim := { program := "ytccmbnbphianbaa", sum := "7725527e4a2c93f31b6d9a2bb68b42916aedd5711fae4fbaabf09a87c8a26986", func := "sigil/sigillaw20.CodecBytes1", spec := "codecBytes1", inPlace := ["math/bits.Sub64", "math/bits.Add64"], unfollowed := true, recurses := true, apart := false }
def CodecBytes1Said : Prop := codecBytes1Row.holds Try.pinned (OpenSpec.ofChange codecBytes1Spec)

/-- ITS FALSE NEIGHBOUR: 'it returns false'. Refute it at one input. -/
def codecBytes1Wrong : ChangeSpec := { name := "codecBytes1", fn := fun _ => fun
  | [d1, d2] => { results := [.lit (.bool false)], args := [d1, d2] }
  | _ => none }
def CodecBytes1WrongFalsely : Prop := codecBytes1Row.holds Try.pinned (OpenSpec.ofChange codecBytes1Wrong)

/-- 'sigillaw20.CodecTurns1': WHATEVER THE INPUT: true; the input reads as it did. -/
def codecTurns1Spec : ChangeSpec := { name := "codecTurns1", fn := fun _ => fun
  | [d] => { results := [.lit (.bool true)], args := [d] }
  | _ => none }
def codecTurns1Row : OpenClaim := { program := "ytccmbnbphianbaa", sum := "7725527e4a2c93f31b6d9a2bb68b42916aedd5711fae4fbaabf09a87c8a26986", func := "sigil/sigillaw20.CodecTurns1", spec := "codecTurns1", inPlace := ["math/bits.Sub64", "math/bits.Add64"], unfollowed := true, recurses := true, apart := false }
def CodecTurns1Said : Prop := codecTurns1Row.holds Try.pinned (OpenSpec.ofChange codecTurns1Spec)

/-- ITS FALSE NEIGHBOUR: 'it returns false'. Refute it at one input. -/
def codecTurns1Wrong : ChangeSpec := { name := "codecTurns1", fn := fun _ => fun
  | [d] => { results := [.lit (.bool false)], args := [d] }
  | _ => none }
def CodecTurns1WrongFalsely : Prop := codecTurns1Row.holds Try.pinned (OpenSpec.ofChange codecTurns1Wrong)

/-- 'sigillaw20.CodecTurns2': WHATEVER THE INPUT: true; the input reads as it did. -/
def codecTurns2Spec : ChangeSpec := { name := "codecTurns2", fn := fun _ => fun
  | [d] => { results := [.lit (.bool true)], args := [d] }
  | _ => none }
def codecTurns2Row : OpenClaim := { program := "ytccmbnbphianbaa", sum := "7725527e4a2c93f31b6d9a2bb68b42916aedd5711fae4fbaabf09a87c8a26986", func := "sigil/sigillaw20.CodecTurns2", spec := "codecTurns2", inPlace := ["math/bits.Sub64", "math/bits.Add64"], unfollowed := true, recurses := true, apart := false }
def CodecTurns2Said : Prop := codecTurns2Row.holds Try.pinned (OpenSpec.ofChange codecTurns2Spec)

/-- ITS FALSE NEIGHBOUR: 'it returns false'. Refute it at one input. -/
def codecTurns2Wrong : ChangeSpec := { name := "codecTurns2", fn := fun _ => fun
  | [d] => { results := [.lit (.bool false)], args := [d] }
  | _ => none }
def CodecTurns2WrongFalsely : Prop := codecTurns2Row.holds Try.pinned (OpenSpec.ofChange codecTurns2Wrong)

/-- 'sigillaw20.CodecBack2': WHATEVER THE INPUT: true; the input reads as it did. -/
def codecBack2Spec : ChangeSpec := { name := "codecBack2", fn := fun _ => fun
  | [d1, d2] => { results := [.lit (.bool true)], args := [d1, d2] }
  | _ => none }
def codecBack2Row : OpenClaim := { program := "ytccmbnbphianbaa", sum := "7725527e4a2c93f31b6d9a2bb68b42916aedd5711fae4fbaabf09a87c8a26986", func := "sigil/sigillaw20.CodecBack2", spec := "codecBack2", inPlace := ["math/bits.Sub64", "math/bits.Add64"], unfollowed := true, recurses := true, apart := false }
def CodecBack2Said : Prop := codecBack2Row.holds Try.pinned (OpenSpec.ofChange codecBack2Spec)

/-- ITS FALSE NEIGHBOUR: 'it returns false'. Refute it at one input. -/
def codecBack2Wrong : ChangeSpec := { name := "codecBack2", fn := fun _ => fun
  | [d1, d2] => { results := [.lit (.bool false)], args := [d1, d2] }
  | _ => none }
def CodecBack2WrongFalsely : Prop := codecBack2Row.holds Try.pinned (OpenSpec.ofChange codecBack2Wrong)

/-- 'sigillaw20.CodecBytes2': WHATEVER THE INPUT: true; the input reads as it did. -/
def codecBytes2Spec : ChangeSpec := { name := "codecBytes2", fn := fun _ => fun
  | [d1, d2] => { results := [.lit (.bool true)], args := [d1, d2] }
  | _ => none }
def codecBytes2Row : OpenClaim := { program := "ytccmbnbphianbaa", sum := "7725527e4a2c93f31b6d9a2bb68b42916aedd5711fae4fbaabf09a87c8a26986", func := "sigil/sigillaw20.CodecBytes2", spec := "codecBytes2", inPlace := ["math/bits.Sub64", "math/bits.Add64"], unfollowed := true, recurses := true, apart := false }
def CodecBytes2Said : Prop := codecBytes2Row.holds Try.pinned (OpenSpec.ofChange codecBytes2Spec)

/-- ITS FALSE NEIGHBOUR: 'it returns false'. Refute it at one input. -/
def codecBytes2Wrong : ChangeSpec := { name := "codecBytes2", fn := fun _ => fun
  | [d1, d2] => { results := [.lit (.bool false)], args := [d1, d2] }
  | _ => none }
def CodecBytes2WrongFalsely : Prop := codecBytes2Row.holds Try.pinned (OpenSpec.ofChange codecBytes2Wrong)

/- THE SECOND FORM. 'bulk': how many values and letters a reading holds, each counted each time it is reached (what is shared counts as often as it is met; a slice's spare places count too). A statement '..UptoSaid' is the law's where the arguments, and the package variables that the reading takes, are together of bulk at most 1048576: NARROWER than '..Said'. Prove '..Said' where nothing that the law and all that it calls make is longer than what came in: it says more and counts as full. Else prove '..UptoSaid'. A law counts once. -/
mutual
def uptoBulk {H : Type} : DataW H → Nat
  | .lit (.string bytes) => bytes.length + 1
  | .lit _ => 1
  | .nil => 1
  | .ptr d => uptoBulk d + 1
  | .slice elems spare => uptoBulkAll elems + uptoBulkAll spare + 1
  | .agg parts => uptoBulkAll parts + 1
  | .iface _ d => uptoBulk d + 1
  | .map entries => uptoBulkEntries entries + 1
  | .held _ => 1
def uptoBulkAll {H : Type} : List (DataW H) → Nat
  | [] => 0
  | d :: r => uptoBulk d + uptoBulkAll r
def uptoBulkEntries {H : Type} : List (Lit × DataW H) → Nat
  | [] => 0
  | x :: r => uptoBulkEntry x + uptoBulkEntries r
def uptoBulkEntry {H : Type} : Lit × DataW H → Nat
  | (.string bytes, d) => bytes.length + uptoBulk d + 1
  | (_, d) => uptoBulk d + 1
 end
def uptoSmall : (H : Type) → List (DataW H) → Bool := fun _ ds => decide (uptoBulkAll ds ≤ 1048576)
def OpenSpec.upto (s : _root_.Go.ChangeSpec) : _root_.Go.OpenSpec := { _root_.Go.OpenSpec.ofChange s with cond := some uptoSmall }

/-- 'sigillaw12.G1Sums', WHERE WHAT IT READS IS OF BULK AT MOST 1048576: true; the input reads as it did. -/
def g1SumsUptoRow : OpenClaim := { program := "ytccmbnbphianbaa", sum := "7725527e4a2c93f31b6d9a2bb68b42916aedd5711fae4fbaabf09a87c8a26986", func := "sigil/sigillaw12.G1Sums", spec := "g1Sums", inPlace := ["math/bits.Sub64", "math/bits.Add64"], unfollowed := true, recurses := true, named := ["math/bits.divideError", "math/bits.overflowError"], apart := false, narrowed := true }
def G1SumsUptoSaid : Prop := g1SumsUptoRow.holds Try.pinned (OpenSpec.upto g1SumsSpec)

/-- 'sigillaw20.CodecNames', WHERE WHAT IT READS IS OF BULK AT MOST 1048576: true; the input reads as it did. -/
def codecNamesUptoRow : OpenClaim := { program := "ytccmbnbphianbaa", sum := "7725527e4a2c93f31b6d9a2bb68b42916aedd5711fae4fbaabf09a87c8a26986", func := "sigil/sigillaw20.CodecNames", spec := "codecNames", inPlace := ["math/bits.Sub64", "math/bits.Add64"], unfollowed := true, recurses := true, apart := false, narrowed := true }
def CodecNamesUptoSaid : Prop := codecNamesUptoRow.holds Try.pinned (OpenSpec.upto codecNamesSpec)

/-- 'sigillaw20.CodecBack1', WHERE WHAT IT READS IS OF BULK AT MOST 1048576: true; the input reads as it did. -/
def codecBack1UptoRow : OpenClaim := { program := "ytccmbnbphianbaa", sum := "7725527e4a2c93f31b6d9a2bb68b42916aedd5711fae4fbaabf09a87c8a26986", func := "sigil/sigillaw20.CodecBack1", spec := "codecBack1", inPlace := ["math/bits.Sub64", "math/bits.Add64"], unfollowed := true, recurses := true, apart := false, narrowed := true }
def CodecBack1UptoSaid : Prop := codecBack1UptoRow.holds Try.pinned (OpenSpec.upto codecBack1Spec)

/-- 'sigillaw20.CodecBytes1', WHERE WHAT IT READS IS OF BULK AT MOST 1048576: true; the input reads as it did. -/
def codecBytes1UptoRow : OpenClaim := { program := "ytccmbnbphianbaa", sum := "7725527e4a2c93f31b6d9a2bb68b42916aedd5711fae4fbaabf09a87c8a26986", func := "sigil/sigillaw20.CodecBytes1", spec := "codecBytes1", inPlace := ["math/bits.Sub64", "math/bits.Add64"], unfollowed := true, recurses := true, apart := false, narrowed := true }
def CodecBytes1UptoSaid : Prop := codecBytes1UptoRow.holds Try.pinned (OpenSpec.upto codecBytes1Spec)

/-- 'sigillaw20.CodecTurns1', WHERE WHAT IT READS IS OF BULK AT MOST 1048576: true; the input reads as it did. -/
def codecTurns1UptoRow : OpenClaim := { program := "ytccmbnbphianbaa", sum := "7725527e4a2c93f31b6d9a2bb68b42916aedd5711fae4fbaabf09a87c8a26986", func := "sigil/sigillaw20.CodecTurns1", spec := "codecTurns1", inPlace := ["math/bits.Sub64", "math/bits.Add64"], unfollowed := true, recurses := true, apart := false, narrowed := true }
def CodecTurns1UptoSaid : Prop := codecTurns1UptoRow.holds Try.pinned (OpenSpec.upto codecTurns1Spec)

/-- 'sigillaw20.CodecTurns2', WHERE WHAT IT READS IS OF BULK AT MOST 1048576: true; the input reads as it did. -/
def codecTurns2UptoRow : OpenClaim := { program := "ytccmbnbphianbaa", sum := "7725527e4a2c93f31b6d9a2bb68b42916aedd5711fae4fbaabf09a87c8a26986", func := "sigil/sigillaw20.CodecTurns2", spec := "codecTurns2", inPlace := ["math/bits.Sub64", "math/bits.Add64"], unfollowed := true, recurses := true, apart := false, narrowed := true }
def CodecTurns2UptoSaid : Prop := codecTurns2UptoRow.holds Try.pinned (OpenSpec.upto codecTurns2Spec)

/-- 'sigillaw20.CodecBack2', WHERE WHAT IT READS IS OF BULK AT MOST 1048576: true; the input reads as it did. -/
def codecBack2UptoRow : OpenClaim := { program := "ytccmbnbphianbaa", sum := "7725527e4a2c93f31b6d9a2bb68b42916aedd5711fae4fbaabf09a87c8a26986", func := "sigil/sigillaw20.CodecBack2", spec := "codecBack2", inPlace := ["math/bits.Sub64", "math/bits.Add64"], unfollowed := true, recurses := true, apart := false, narrowed := true }
def CodecBack2UptoSaid : Prop := codecBack2UptoRow.holds Try.pinned (OpenSpec.upto codecBack2Spec)

/-- 'sigillaw20.CodecBytes2', WHERE WHAT IT READS IS OF BULK AT MOST 1048576: true; the input reads as it did. -/
def codecBytes2UptoRow : OpenClaim := { program := "ytccmbnbphianbaa", sum := "7725527e4a2c93f31b6d9a2bb68b42916aedd5711fae4fbaabf09a87c8a26986", func := "sigil/sigillaw20.CodecBytes2", spec := "codecBytes2", inPlace := ["math/bits.Sub64", "math/bits.Add64"], unfollowed := true, recurses := true, apart := false, narrowed := true }
def CodecBytes2UptoSaid : Prop := codecBytes2UptoRow.holds Try.pinned (OpenSpec.upto codecBytes2Spec)

end Rows
end Go.Proofs.Ytccmbnbphianbaa
