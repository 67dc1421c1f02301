/-
  No cell of these rows narrows 'for every input' (looked for: loops, veiled, ifaces, maps, wideKeys, modest, calm, conditions, laid).
  DERIVED. THE GIVEN ROWS OF THIS SEAT. 4 by the template 'for every input the law returns true; each argument reads behind the call as it read before'; 0 by the template 'total and deterministic' (their statements: YtgnajdcdcblaoaaGreatTotals.lean).
  GIVEN WITH THE SEED: the statements are not yours to turn. If you find one false, say at which input.
  Laid BY PROGRAM, IN A SANDBOX (cutbox-rows.mjs): the forced cells as the released guide's own fill.sh prints them over the translation e62933d528b8ada2… (all of the seat's roots in one cut). By AI agents, Wed Nov 11 2026. No macro, syntax, notation, axiom, sorry.
-/
import Derived.Test.YtgnajdcdcblaoaaGreatChecked
import GoSem.Claim
import GoSem.ClaimJoined
import GoSem.ClaimMapViews
import Derived.JoinedTies
import Derived.KernelRfl
namespace Go.Proofs.YtgnajdcdcblaoaaGreat
/- THE CELL 'sum', in the pinned program and in every row, IS THE sha256 OF THE DUMP (.gsa) THAT YtgnajdcdcblaoaaGreatProg.lean LOADS. Nothing in Lean hashes anything: it is a label: what it is worth is what the hold of that sum in a sandbox is worth. -/
noncomputable def Tryz.pinned : Pinned := { name := "ytgnajdcdcblaoaagreat", sum := "e62933d528b8ada2a4277f15b1c84d45168dbe69b20c85c8ebd2e369619715c2", checked := Tryz.checked }
namespace Rows
def none {H : Type} : Left H := { results := [], args := [] }

/-- 'sigillaw21.BlsVerifies': WHATEVER THE INPUT: true; the input reads as it did. -/
def blsVerifiesSpec : ChangeSpec := { name := "blsVerifies", fn := fun _ => fun
  | [d1, d2, d3] => { results := [.lit (.bool true)], args := [d1, d2, d3] }
  | _ => none }
def blsVerifiesRow : OpenClaim := { program := "ytgnajdcdcblaoaagreat", sum := "e62933d528b8ada2a4277f15b1c84d45168dbe69b20c85c8ebd2e369619715c2", func := "sigil/sigillaw21.BlsVerifies", spec := "blsVerifies", inPlace := ["math/bits.Add64", "math/bits.Sub64"], unfollowed := true, recurses := true, named := ["math/bits.divideError", "math/bits.overflowError"], apart := false }
def BlsVerifiesSaid : Prop := blsVerifiesRow.holds Tryz.pinned (OpenSpec.ofChange blsVerifiesSpec)

/-- ITS FALSE NEIGHBOUR: 'it returns false'. Refute it at one input. -/
def blsVerifiesWrong : ChangeSpec := { name := "blsVerifies", fn := fun _ => fun
  | [d1, d2, d3] => { results := [.lit (.bool false)], args := [d1, d2, d3] }
  | _ => none }
def BlsVerifiesWrongFalsely : Prop := blsVerifiesRow.holds Tryz.pinned (OpenSpec.ofChange blsVerifiesWrong)

/-- 'sigillaw21.BlsTogether': WHATEVER THE INPUT: true; the input reads as it did. -/
def blsTogetherSpec : ChangeSpec := { name := "blsTogether", fn := fun _ => fun
  | [d1, d2, d3] => { results := [.lit (.bool true)], args := [d1, d2, d3] }
  | _ => none }
def blsTogetherRow : OpenClaim := { program := "ytgnajdcdcblaoaagreat", sum := "e62933d528b8ada2a4277f15b1c84d45168dbe69b20c85c8ebd2e369619715c2", func := "sigil/sigillaw21.BlsTogether", spec := "blsTogether", inPlace := ["math/bits.Add64", "math/bits.Sub64"], unfollowed := true, recurses := true, named := ["math/bits.divideError", "math/bits.overflowError"], apart := false }
def BlsTogetherSaid : Prop := blsTogetherRow.holds Tryz.pinned (OpenSpec.ofChange blsTogetherSpec)

/-- ITS FALSE NEIGHBOUR: 'it returns false'. Refute it at one input. -/
def blsTogetherWrong : ChangeSpec := { name := "blsTogether", fn := fun _ => fun
  | [d1, d2, d3] => { results := [.lit (.bool false)], args := [d1, d2, d3] }
  | _ => none }
def BlsTogetherWrongFalsely : Prop := blsTogetherRow.holds Tryz.pinned (OpenSpec.ofChange blsTogetherWrong)

/-- 'sigillaw21.BlsPossess': WHATEVER THE INPUT: true; the input reads as it did. -/
def blsPossessSpec : ChangeSpec := { name := "blsPossess", fn := fun _ => fun
  | [d1, d2] => { results := [.lit (.bool true)], args := [d1, d2] }
  | _ => none }
def blsPossessRow : OpenClaim := { program := "ytgnajdcdcblaoaagreat", sum := "e62933d528b8ada2a4277f15b1c84d45168dbe69b20c85c8ebd2e369619715c2", func := "sigil/sigillaw21.BlsPossess", spec := "blsPossess", inPlace := ["math/bits.Add64", "math/bits.Sub64"], unfollowed := true, recurses := true, named := ["math/bits.divideError", "math/bits.overflowError"], apart := false }
def BlsPossessSaid : Prop := blsPossessRow.holds Tryz.pinned (OpenSpec.ofChange blsPossessSpec)

/-- ITS FALSE NEIGHBOUR: 'it returns false'. Refute it at one input. -/
def blsPossessWrong : ChangeSpec := { name := "blsPossess", fn := fun _ => fun
  | [d1, d2] => { results := [.lit (.bool false)], args := [d1, d2] }
  | _ => none }
def BlsPossessWrongFalsely : Prop := blsPossessRow.holds Tryz.pinned (OpenSpec.ofChange blsPossessWrong)

/-- 'sigillaw21.BlsFast': WHATEVER THE INPUT: true; the input reads as it did. -/
def blsFastSpec : ChangeSpec := { name := "blsFast", fn := fun _ => fun
  | [d1, d2, d3] => { results := [.lit (.bool true)], args := [d1, d2, d3] }
  | _ => none }
def blsFastRow : OpenClaim := { program := "ytgnajdcdcblaoaagreat", sum := "e62933d528b8ada2a4277f15b1c84d45168dbe69b20c85c8ebd2e369619715c2", func := "sigil/sigillaw21.BlsFast", spec := "blsFast", inPlace := ["math/bits.Add64", "math/bits.Sub64"], unfollowed := true, recurses := true, named := ["math/bits.divideError", "math/bits.overflowError"], apart := false }
def BlsFastSaid : Prop := blsFastRow.holds Tryz.pinned (OpenSpec.ofChange blsFastSpec)

/-- ITS FALSE NEIGHBOUR: 'it returns false'. Refute it at one input. -/
def blsFastWrong : ChangeSpec := { name := "blsFast", fn := fun _ => fun
  | [d1, d2, d3] => { results := [.lit (.bool false)], args := [d1, d2, d3] }
  | _ => none }
def BlsFastWrongFalsely : Prop := blsFastRow.holds Tryz.pinned (OpenSpec.ofChange blsFastWrong)

/- THE SECOND FORM. 'bulk': how many values and letters a reading holds, each counted each time it is reached (what is shared counts as often as it is met; a slice's spare places count too). A statement '..UptoSaid' is the law's where the arguments, and the package variables that the reading takes, are together of bulk at most 1048576: NARROWER than '..Said'. Prove '..Said' where nothing that the law and all that it calls make is longer than what came in: it says more and counts as full. Else prove '..UptoSaid'. A law counts once. -/
mutual
def uptoBulk {H : Type} : DataW H → Nat
  | .lit (.string bytes) => bytes.length + 1
  | .lit _ => 1
  | .nil => 1
  | .ptr d => uptoBulk d + 1
  | .slice elems spare => uptoBulkAll elems + uptoBulkAll spare + 1
  | .agg parts => uptoBulkAll parts + 1
  | .iface _ d => uptoBulk d + 1
  | .map entries => uptoBulkEntries entries + 1
  | .held _ => 1
def uptoBulkAll {H : Type} : List (DataW H) → Nat
  | [] => 0
  | d :: r => uptoBulk d + uptoBulkAll r
def uptoBulkEntries {H : Type} : List (Lit × DataW H) → Nat
  | [] => 0
  | x :: r => uptoBulkEntry x + uptoBulkEntries r
def uptoBulkEntry {H : Type} : Lit × DataW H → Nat
  | (.string bytes, d) => bytes.length + uptoBulk d + 1
  | (_, d) => uptoBulk d + 1
 end
def uptoSmall : (H : Type) → List (DataW H) → Bool := fun _ ds => decide (uptoBulkAll ds ≤ 1048576)
def OpenSpec.upto (s : _root_.Go.ChangeSpec) : _root_.Go.OpenSpec := { _root_.Go.OpenSpec.ofChange s with cond := some uptoSmall }

/-- 'sigillaw21.BlsVerifies', WHERE WHAT IT READS IS OF BULK AT MOST 1048576: true; the input reads as it did. -/
def blsVerifiesUptoRow : OpenClaim := { program := "ytgnajdcdcblaoaagreat", sum := "e62933d528b8ada2a4277f15b1c84d45168dbe69b20c85c8ebd2e369619715c2", func := "sigil/sigillaw21.BlsVerifies", spec := "blsVerifies", inPlace := ["math/bits.Add64", "math/bits.Sub64"], unfollowed := true, recurses := true, named := ["math/bits.divideError", "math/bits.overflowError"], apart := false, narrowed := true }
def BlsVerifiesUptoSaid : Prop := blsVerifiesUptoRow.holds Tryz.pinned (OpenSpec.upto blsVerifiesSpec)

/-- 'sigillaw21.BlsTogether', WHERE WHAT IT READS IS OF BULK AT MOST 1048576: true; the input reads as it did. -/
def blsTogetherUptoRow : OpenClaim := { program := "ytgnajdcdcblaoaagreat", sum := "e62933d528b8ada2a4277f15b1c84d45168dbe69b20c85c8ebd2e369619715c2", func := "sigil/sigillaw21.BlsTogether", spec := "blsTogether", inPlace := ["math/bits.Add64", "math/bits.Sub64"], unfollowed := true, recurses := true, named := ["math/bits.divideError", "math/bits.overflowError"], apart := false, narrowed := true }
def BlsTogetherUptoSaid : Prop := blsTogetherUptoRow.holds Tryz.pinned (OpenSpec.upto blsTogetherSpec)

/-- 'sigillaw21.BlsPossess', WHERE WHAT IT READS IS OF BULK AT MOST 1048576: true; the input reads as it did. -/
def blsPossessUptoRow : OpenClaim := { program := "ytgnajdcdcblaoaagreat", sum := "e62933d528b8ada2a4277f15b1c84d45168dbe69b20c85c8ebd2e369619715c2", func := "sigil/sigillaw21.BlsPossess", spec := "blsPossess", inPlace := ["math/bits.Add64", "math/bits.Sub64"], unfollowed := true, recurses := true, named := ["math/bits.divideError", "math/bits.overflowError"], apart := false, narrowed := true }
def BlsPossessUptoSaid : Prop := blsPossessUptoRow.holds Tryz.pinned (OpenSpec.upto blsPossessSpec)

/-- 'sigillaw21.BlsFast', WHERE WHAT IT READS IS OF BULK AT MOST 1048576: true; the input reads as it did. -/
def blsFastUptoRow : OpenClaim := { program := "ytgnajdcdcblaoaagreat", sum := "e62933d528b8ada2a4277f15b1c84d45168dbe69b20c85c8ebd2e369619715c2", func := "sigil/sigillaw21.BlsFast", spec := "blsFast", inPlace := ["math/bits.Add64", "math/bits.Sub64"], unfollowed := true, recurses := true, named := ["math/bits.divideError", "math/bits.overflowError"], apart := false, narrowed := true }
def BlsFastUptoSaid : Prop := blsFastUptoRow.holds Tryz.pinned (OpenSpec.upto blsFastSpec)

end Rows
end Go.Proofs.YtgnajdcdcblaoaaGreat
