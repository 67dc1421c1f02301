/-
  No cell of these rows narrows 'for every input' (looked for: loops, veiled, ifaces, maps, wideKeys, modest, calm, conditions, laid).
  DERIVED. THE GIVEN ROWS OF THIS SEAT. 12 by the template 'for every input the law returns true; each argument reads behind the call as it read before'; 0 by the template 'total and deterministic' (their statements: YtfmajnlfpnjagaaGreatTotals.lean).
  GIVEN WITH THE SEED: the statements are not yours to turn. If you find one false, say at which input.
  Laid BY PROGRAM, IN A SANDBOX (cutbox-rows.mjs): the forced cells as the released guide's own fill.sh prints them over the translation 11888058b624e6e3… (all of the seat's roots in one cut). By AI agents, Wed Nov 11 2026. No macro, syntax, notation, axiom, sorry.
-/
import Derived.Test.YtfmajnlfpnjagaaGreatChecked
import GoSem.Claim
import GoSem.ClaimJoined
import GoSem.ClaimMapViews
import Derived.JoinedTies
import Derived.KernelRfl
namespace Go.Proofs.YtfmajnlfpnjagaaGreat
/- THE CELL 'sum', in the pinned program and in every row, IS THE sha256 OF THE DUMP (.gsa) THAT YtfmajnlfpnjagaaGreatProg.lean LOADS. Nothing in Lean hashes anything: it is a label: what it is worth is what the hold of that sum in a sandbox is worth. -/
noncomputable def Tryz.pinned : Pinned := { name := "ytfmajnlfpnjagaagreat", sum := "11888058b624e6e312d38ee556cf18d05e9c33d4a80da15c13dacc59a5d603e7", checked := Tryz.checked }
namespace Rows
def none {H : Type} : Left H := { results := [], args := [] }

/-- 'sigillaw21.BlsNames': WHATEVER THE INPUT: true; the input reads as it did. -/
def blsNamesSpec : ChangeSpec := { name := "blsNames", fn := fun _ => fun
  | [] => { results := [.lit (.bool true)], args := [] }
  | _ => none }
def blsNamesRow : OpenClaim := { program := "ytfmajnlfpnjagaagreat", sum := "11888058b624e6e312d38ee556cf18d05e9c33d4a80da15c13dacc59a5d603e7", func := "sigil/sigillaw21.BlsNames", spec := "blsNames", inPlace := ["math/bits.Add64", "math/bits.Sub64"], unfollowed := true, recurses := true, named := ["math/bits.divideError", "math/bits.overflowError"], apart := false }
def BlsNamesSaid : Prop := blsNamesRow.holds Tryz.pinned (OpenSpec.ofChange blsNamesSpec)

/-- ITS FALSE NEIGHBOUR: 'it returns false'. Refute it at one input. -/
def blsNamesWrong : ChangeSpec := { name := "blsNames", fn := fun _ => fun
  | [] => { results := [.lit (.bool false)], args := [] }
  | _ => none }
def BlsNamesWrongFalsely : Prop := blsNamesRow.holds Tryz.pinned (OpenSpec.ofChange blsNamesWrong)

/-- 'sigillaw21.BlsKeys': WHATEVER THE INPUT: true; the input reads as it did. -/
def blsKeysSpec : ChangeSpec := { name := "blsKeys", fn := fun _ => fun
  | [d1, d2, d3] => { results := [.lit (.bool true)], args := [d1, d2, d3] }
  | _ => none }
def blsKeysRow : OpenClaim := { program := "ytfmajnlfpnjagaagreat", sum := "11888058b624e6e312d38ee556cf18d05e9c33d4a80da15c13dacc59a5d603e7", func := "sigil/sigillaw21.BlsKeys", spec := "blsKeys", inPlace := ["math/bits.Add64", "math/bits.Sub64"], unfollowed := true, recurses := true, named := ["math/bits.divideError", "math/bits.overflowError"], apart := false }
def BlsKeysSaid : Prop := blsKeysRow.holds Tryz.pinned (OpenSpec.ofChange blsKeysSpec)

/-- ITS FALSE NEIGHBOUR: 'it returns false'. Refute it at one input. -/
def blsKeysWrong : ChangeSpec := { name := "blsKeys", fn := fun _ => fun
  | [d1, d2, d3] => { results := [.lit (.bool false)], args := [d1, d2, d3] }
  | _ => none }
def BlsKeysWrongFalsely : Prop := blsKeysRow.holds Tryz.pinned (OpenSpec.ofChange blsKeysWrong)

/-- 'sigillaw21.BlsAggregates': WHATEVER THE INPUT: true; the input reads as it did. -/
def blsAggregatesSpec : ChangeSpec := { name := "blsAggregates", fn := fun _ => fun
  | [d] => { results := [.lit (.bool true)], args := [d] }
  | _ => none }
def blsAggregatesRow : OpenClaim := { program := "ytfmajnlfpnjagaagreat", sum := "11888058b624e6e312d38ee556cf18d05e9c33d4a80da15c13dacc59a5d603e7", func := "sigil/sigillaw21.BlsAggregates", spec := "blsAggregates", inPlace := ["math/bits.Add64", "math/bits.Sub64"], unfollowed := true, recurses := true, named := ["math/bits.divideError", "math/bits.overflowError"], apart := false }
def BlsAggregatesSaid : Prop := blsAggregatesRow.holds Tryz.pinned (OpenSpec.ofChange blsAggregatesSpec)

/-- ITS FALSE NEIGHBOUR: 'it returns false'. Refute it at one input. -/
def blsAggregatesWrong : ChangeSpec := { name := "blsAggregates", fn := fun _ => fun
  | [d] => { results := [.lit (.bool false)], args := [d] }
  | _ => none }
def BlsAggregatesWrongFalsely : Prop := blsAggregatesRow.holds Tryz.pinned (OpenSpec.ofChange blsAggregatesWrong)

/-- 'sigillaw21.BlsKeyed': WHATEVER THE INPUT: true; the input reads as it did. -/
def blsKeyedSpec : ChangeSpec := { name := "blsKeyed", fn := fun _ => fun
  | [d1, d2] => { results := [.lit (.bool true)], args := [d1, d2] }
  | _ => none }
def blsKeyedRow : OpenClaim := { program := "ytfmajnlfpnjagaagreat", sum := "11888058b624e6e312d38ee556cf18d05e9c33d4a80da15c13dacc59a5d603e7", func := "sigil/sigillaw21.BlsKeyed", spec := "blsKeyed", inPlace := ["math/bits.Add64", "math/bits.Sub64"], unfollowed := true, recurses := true, named := ["math/bits.divideError", "math/bits.overflowError"], apart := false }
def BlsKeyedSaid : Prop := blsKeyedRow.holds Tryz.pinned (OpenSpec.ofChange blsKeyedSpec)

/-- ITS FALSE NEIGHBOUR: 'it returns false'. Refute it at one input. -/
def blsKeyedWrong : ChangeSpec := { name := "blsKeyed", fn := fun _ => fun
  | [d1, d2] => { results := [.lit (.bool false)], args := [d1, d2] }
  | _ => none }
def BlsKeyedWrongFalsely : Prop := blsKeyedRow.holds Tryz.pinned (OpenSpec.ofChange blsKeyedWrong)

/-- 'sigillaw21.BlsOrders': WHATEVER THE INPUT: true; the input reads as it did. -/
def blsOrdersSpec : ChangeSpec := { name := "blsOrders", fn := fun _ => fun
  | [d1, d2, d3] => { results := [.lit (.bool true)], args := [d1, d2, d3] }
  | _ => none }
def blsOrdersRow : OpenClaim := { program := "ytfmajnlfpnjagaagreat", sum := "11888058b624e6e312d38ee556cf18d05e9c33d4a80da15c13dacc59a5d603e7", func := "sigil/sigillaw21.BlsOrders", spec := "blsOrders", inPlace := ["math/bits.Add64", "math/bits.Sub64"], unfollowed := true, recurses := true, named := ["math/bits.divideError", "math/bits.overflowError"], apart := false }
def BlsOrdersSaid : Prop := blsOrdersRow.holds Tryz.pinned (OpenSpec.ofChange blsOrdersSpec)

/-- ITS FALSE NEIGHBOUR: 'it returns false'. Refute it at one input. -/
def blsOrdersWrong : ChangeSpec := { name := "blsOrders", fn := fun _ => fun
  | [d1, d2, d3] => { results := [.lit (.bool false)], args := [d1, d2, d3] }
  | _ => none }
def BlsOrdersWrongFalsely : Prop := blsOrdersRow.holds Tryz.pinned (OpenSpec.ofChange blsOrdersWrong)

/-- 'sigillaw21.BlsSigns': WHATEVER THE INPUT: true; the input reads as it did. -/
def blsSignsSpec : ChangeSpec := { name := "blsSigns", fn := fun _ => fun
  | [d1, d2] => { results := [.lit (.bool true)], args := [d1, d2] }
  | _ => none }
def blsSignsRow : OpenClaim := { program := "ytfmajnlfpnjagaagreat", sum := "11888058b624e6e312d38ee556cf18d05e9c33d4a80da15c13dacc59a5d603e7", func := "sigil/sigillaw21.BlsSigns", spec := "blsSigns", inPlace := ["math/bits.Add64", "math/bits.Sub64"], unfollowed := true, recurses := true, named := ["math/bits.divideError", "math/bits.overflowError"], apart := false }
def BlsSignsSaid : Prop := blsSignsRow.holds Tryz.pinned (OpenSpec.ofChange blsSignsSpec)

/-- ITS FALSE NEIGHBOUR: 'it returns false'. Refute it at one input. -/
def blsSignsWrong : ChangeSpec := { name := "blsSigns", fn := fun _ => fun
  | [d1, d2] => { results := [.lit (.bool false)], args := [d1, d2] }
  | _ => none }
def BlsSignsWrongFalsely : Prop := blsSignsRow.holds Tryz.pinned (OpenSpec.ofChange blsSignsWrong)

/-- 'sigillaw21.BlsProves': WHATEVER THE INPUT: true; the input reads as it did. -/
def blsProvesSpec : ChangeSpec := { name := "blsProves", fn := fun _ => fun
  | [d] => { results := [.lit (.bool true)], args := [d] }
  | _ => none }
def blsProvesRow : OpenClaim := { program := "ytfmajnlfpnjagaagreat", sum := "11888058b624e6e312d38ee556cf18d05e9c33d4a80da15c13dacc59a5d603e7", func := "sigil/sigillaw21.BlsProves", spec := "blsProves", inPlace := ["math/bits.Add64", "math/bits.Sub64"], unfollowed := true, recurses := true, named := ["math/bits.divideError", "math/bits.overflowError"], apart := false }
def BlsProvesSaid : Prop := blsProvesRow.holds Tryz.pinned (OpenSpec.ofChange blsProvesSpec)

/-- ITS FALSE NEIGHBOUR: 'it returns false'. Refute it at one input. -/
def blsProvesWrong : ChangeSpec := { name := "blsProves", fn := fun _ => fun
  | [d] => { results := [.lit (.bool false)], args := [d] }
  | _ => none }
def BlsProvesWrongFalsely : Prop := blsProvesRow.holds Tryz.pinned (OpenSpec.ofChange blsProvesWrong)

/-- 'sigillaw21.BlsSums': WHATEVER THE INPUT: true; the input reads as it did. -/
def blsSumsSpec : ChangeSpec := { name := "blsSums", fn := fun _ => fun
  | [d1, d2, d3] => { results := [.lit (.bool true)], args := [d1, d2, d3] }
  | _ => none }
def blsSumsRow : OpenClaim := { program := "ytfmajnlfpnjagaagreat", sum := "11888058b624e6e312d38ee556cf18d05e9c33d4a80da15c13dacc59a5d603e7", func := "sigil/sigillaw21.BlsSums", spec := "blsSums", inPlace := ["math/bits.Add64", "math/bits.Sub64"], unfollowed := true, recurses := true, named := ["math/bits.divideError", "math/bits.overflowError"], apart := false }
def BlsSumsSaid : Prop := blsSumsRow.holds Tryz.pinned (OpenSpec.ofChange blsSumsSpec)

/-- ITS FALSE NEIGHBOUR: 'it returns false'. Refute it at one input. -/
def blsSumsWrong : ChangeSpec := { name := "blsSums", fn := fun _ => fun
  | [d1, d2, d3] => { results := [.lit (.bool false)], args := [d1, d2, d3] }
  | _ => none }
def BlsSumsWrongFalsely : Prop := blsSumsRow.holds Tryz.pinned (OpenSpec.ofChange blsSumsWrong)

/-- 'sigillaw21.BlsVerifies': WHATEVER THE INPUT: true; the input reads as it did. -/
def blsVerifiesSpec : ChangeSpec := { name := "blsVerifies", fn := fun _ => fun
  | [d1, d2, d3] => { results := [.lit (.bool true)], args := [d1, d2, d3] }
  | _ => none }
def blsVerifiesRow : OpenClaim := { program := "ytfmajnlfpnjagaagreat", sum := "11888058b624e6e312d38ee556cf18d05e9c33d4a80da15c13dacc59a5d603e7", func := "sigil/sigillaw21.BlsVerifies", spec := "blsVerifies", inPlace := ["math/bits.Add64", "math/bits.Sub64"], unfollowed := true, recurses := true, named := ["math/bits.divideError", "math/bits.overflowError"], apart := false }
def BlsVerifiesSaid : Prop := blsVerifiesRow.holds Tryz.pinned (OpenSpec.ofChange blsVerifiesSpec)

/-- ITS FALSE NEIGHBOUR: 'it returns false'. Refute it at one input. -/
def blsVerifiesWrong : ChangeSpec := { name := "blsVerifies", fn := fun _ => fun
  | [d1, d2, d3] => { results := [.lit (.bool false)], args := [d1, d2, d3] }
  | _ => none }
def BlsVerifiesWrongFalsely : Prop := blsVerifiesRow.holds Tryz.pinned (OpenSpec.ofChange blsVerifiesWrong)

/-- 'sigillaw21.BlsTogether': WHATEVER THE INPUT: true; the input reads as it did. -/
def blsTogetherSpec : ChangeSpec := { name := "blsTogether", fn := fun _ => fun
  | [d1, d2, d3] => { results := [.lit (.bool true)], args := [d1, d2, d3] }
  | _ => none }
def blsTogetherRow : OpenClaim := { program := "ytfmajnlfpnjagaagreat", sum := "11888058b624e6e312d38ee556cf18d05e9c33d4a80da15c13dacc59a5d603e7", func := "sigil/sigillaw21.BlsTogether", spec := "blsTogether", inPlace := ["math/bits.Add64", "math/bits.Sub64"], unfollowed := true, recurses := true, named := ["math/bits.divideError", "math/bits.overflowError"], apart := false }
def BlsTogetherSaid : Prop := blsTogetherRow.holds Tryz.pinned (OpenSpec.ofChange blsTogetherSpec)

/-- ITS FALSE NEIGHBOUR: 'it returns false'. Refute it at one input. -/
def blsTogetherWrong : ChangeSpec := { name := "blsTogether", fn := fun _ => fun
  | [d1, d2, d3] => { results := [.lit (.bool false)], args := [d1, d2, d3] }
  | _ => none }
def BlsTogetherWrongFalsely : Prop := blsTogetherRow.holds Tryz.pinned (OpenSpec.ofChange blsTogetherWrong)

/-- 'sigillaw21.BlsPossess': WHATEVER THE INPUT: true; the input reads as it did. -/
def blsPossessSpec : ChangeSpec := { name := "blsPossess", fn := fun _ => fun
  | [d1, d2] => { results := [.lit (.bool true)], args := [d1, d2] }
  | _ => none }
def blsPossessRow : OpenClaim := { program := "ytfmajnlfpnjagaagreat", sum := "11888058b624e6e312d38ee556cf18d05e9c33d4a80da15c13dacc59a5d603e7", func := "sigil/sigillaw21.BlsPossess", spec := "blsPossess", inPlace := ["math/bits.Add64", "math/bits.Sub64"], unfollowed := true, recurses := true, named := ["math/bits.divideError", "math/bits.overflowError"], apart := false }
def BlsPossessSaid : Prop := blsPossessRow.holds Tryz.pinned (OpenSpec.ofChange blsPossessSpec)

/-- ITS FALSE NEIGHBOUR: 'it returns false'. Refute it at one input. -/
def blsPossessWrong : ChangeSpec := { name := "blsPossess", fn := fun _ => fun
  | [d1, d2] => { results := [.lit (.bool false)], args := [d1, d2] }
  | _ => none }
def BlsPossessWrongFalsely : Prop := blsPossessRow.holds Tryz.pinned (OpenSpec.ofChange blsPossessWrong)

/-- 'sigillaw21.BlsFast': WHATEVER THE INPUT: true; the input reads as it did. -/
def blsFastSpec : ChangeSpec := { name := "blsFast", fn := fun _ => fun
  | [d1, d2, d3] => { results := [.lit (.bool true)], args := [d1, d2, d3] }
  | _ => none }
def blsFastRow : OpenClaim := { program := "ytfmajnlfpnjagaagreat", sum := "11888058b624e6e312d38ee556cf18d05e9c33d4a80da15c13dacc59a5d603e7", func := "sigil/sigillaw21.BlsFast", spec := "blsFast", inPlace := ["math/bits.Add64", "math/bits.Sub64"], unfollowed := true, recurses := true, named := ["math/bits.divideError", "math/bits.overflowError"], apart := false }
def BlsFastSaid : Prop := blsFastRow.holds Tryz.pinned (OpenSpec.ofChange blsFastSpec)

/-- ITS FALSE NEIGHBOUR: 'it returns false'. Refute it at one input. -/
def blsFastWrong : ChangeSpec := { name := "blsFast", fn := fun _ => fun
  | [d1, d2, d3] => { results := [.lit (.bool false)], args := [d1, d2, d3] }
  | _ => none }
def BlsFastWrongFalsely : Prop := blsFastRow.holds Tryz.pinned (OpenSpec.ofChange blsFastWrong)

/- THE SECOND FORM. 'bulk': how many values and letters a reading holds, each counted each time it is reached (what is shared counts as often as it is met; a slice's spare places count too). A statement '..UptoSaid' is the law's where the arguments, and the package variables that the reading takes, are together of bulk at most 1048576: NARROWER than '..Said'. Prove '..Said' where nothing that the law and all that it calls make is longer than what came in: it says more and counts as full. Else prove '..UptoSaid'. A law counts once. -/
mutual
def uptoBulk {H : Type} : DataW H → Nat
  | .lit (.string bytes) => bytes.length + 1
  | .lit _ => 1
  | .nil => 1
  | .ptr d => uptoBulk d + 1
  | .slice elems spare => uptoBulkAll elems + uptoBulkAll spare + 1
  | .agg parts => uptoBulkAll parts + 1
  | .iface _ d => uptoBulk d + 1
  | .map entries => uptoBulkEntries entries + 1
  | .held _ => 1
def uptoBulkAll {H : Type} : List (DataW H) → Nat
  | [] => 0
  | d :: r => uptoBulk d + uptoBulkAll r
def uptoBulkEntries {H : Type} : List (Lit × DataW H) → Nat
  | [] => 0
  | x :: r => uptoBulkEntry x + uptoBulkEntries r
def uptoBulkEntry {H : Type} : Lit × DataW H → Nat
  | (.string bytes, d) => bytes.length + uptoBulk d + 1
  | (_, d) => uptoBulk d + 1
 end
def uptoSmall : (H : Type) → List (DataW H) → Bool := fun _ ds => decide (uptoBulkAll ds ≤ 1048576)
def OpenSpec.upto (s : _root_.Go.ChangeSpec) : _root_.Go.OpenSpec := { _root_.Go.OpenSpec.ofChange s with cond := some uptoSmall }

/-- 'sigillaw21.BlsNames', WHERE WHAT IT READS IS OF BULK AT MOST 1048576: true; the input reads as it did. -/
def blsNamesUptoRow : OpenClaim := { program := "ytfmajnlfpnjagaagreat", sum := "11888058b624e6e312d38ee556cf18d05e9c33d4a80da15c13dacc59a5d603e7", func := "sigil/sigillaw21.BlsNames", spec := "blsNames", inPlace := ["math/bits.Add64", "math/bits.Sub64"], unfollowed := true, recurses := true, named := ["math/bits.divideError", "math/bits.overflowError"], apart := false, narrowed := true }
def BlsNamesUptoSaid : Prop := blsNamesUptoRow.holds Tryz.pinned (OpenSpec.upto blsNamesSpec)

/-- 'sigillaw21.BlsKeys', WHERE WHAT IT READS IS OF BULK AT MOST 1048576: true; the input reads as it did. -/
def blsKeysUptoRow : OpenClaim := { program := "ytfmajnlfpnjagaagreat", sum := "11888058b624e6e312d38ee556cf18d05e9c33d4a80da15c13dacc59a5d603e7", func := "sigil/sigillaw21.BlsKeys", spec := "blsKeys", inPlace := ["math/bits.Add64", "math/bits.Sub64"], unfollowed := true, recurses := true, named := ["math/bits.divideError", "math/bits.overflowError"], apart := false, narrowed := true }
def BlsKeysUptoSaid : Prop := blsKeysUptoRow.holds Tryz.pinned (OpenSpec.upto blsKeysSpec)

/-- 'sigillaw21.BlsAggregates', WHERE WHAT IT READS IS OF BULK AT MOST 1048576: true; the input reads as it did. -/
def blsAggregatesUptoRow : OpenClaim := { program := "ytfmajnlfpnjagaagreat", sum := "11888058b624e6e312d38ee556cf18d05e9c33d4a80da15c13dacc59a5d603e7", func := "sigil/sigillaw21.BlsAggregates", spec := "blsAggregates", inPlace := ["math/bits.Add64", "math/bits.Sub64"], unfollowed := true, recurses := true, named := ["math/bits.divideError", "math/bits.overflowError"], apart := false, narrowed := true }
def BlsAggregatesUptoSaid : Prop := blsAggregatesUptoRow.holds Tryz.pinned (OpenSpec.upto blsAggregatesSpec)

/-- 'sigillaw21.BlsKeyed', WHERE WHAT IT READS IS OF BULK AT MOST 1048576: true; the input reads as it did. -/
def blsKeyedUptoRow : OpenClaim := { program := "ytfmajnlfpnjagaagreat", sum := "11888058b624e6e312d38ee556cf18d05e9c33d4a80da15c13dacc59a5d603e7", func := "sigil/sigillaw21.BlsKeyed", spec := "blsKeyed", inPlace := ["math/bits.Add64", "math/bits.Sub64"], unfollowed := true, recurses := true, named := ["math/bits.divideError", "math/bits.overflowError"], apart := false, narrowed := true }
def BlsKeyedUptoSaid : Prop := blsKeyedUptoRow.holds Tryz.pinned (OpenSpec.upto blsKeyedSpec)

/-- 'sigillaw21.BlsOrders', WHERE WHAT IT READS IS OF BULK AT MOST 1048576: true; the input reads as it did. -/
def blsOrdersUptoRow : OpenClaim := { program := "ytfmajnlfpnjagaagreat", sum := "11888058b624e6e312d38ee556cf18d05e9c33d4a80da15c13dacc59a5d603e7", func := "sigil/sigillaw21.BlsOrders", spec := "blsOrders", inPlace := ["math/bits.Add64", "math/bits.Sub64"], unfollowed := true, recurses := true, named := ["math/bits.divideError", "math/bits.overflowError"], apart := false, narrowed := true }
def BlsOrdersUptoSaid : Prop := blsOrdersUptoRow.holds Tryz.pinned (OpenSpec.upto blsOrdersSpec)

/-- 'sigillaw21.BlsSigns', WHERE WHAT IT READS IS OF BULK AT MOST 1048576: true; the input reads as it did. -/
def blsSignsUptoRow : OpenClaim := { program := "ytfmajnlfpnjagaagreat", sum := "11888058b624e6e312d38ee556cf18d05e9c33d4a80da15c13dacc59a5d603e7", func := "sigil/sigillaw21.BlsSigns", spec := "blsSigns", inPlace := ["math/bits.Add64", "math/bits.Sub64"], unfollowed := true, recurses := true, named := ["math/bits.divideError", "math/bits.overflowError"], apart := false, narrowed := true }
def BlsSignsUptoSaid : Prop := blsSignsUptoRow.holds Tryz.pinned (OpenSpec.upto blsSignsSpec)

/-- 'sigillaw21.BlsProves', WHERE WHAT IT READS IS OF BULK AT MOST 1048576: true; the input reads as it did. -/
def blsProvesUptoRow : OpenClaim := { program := "ytfmajnlfpnjagaagreat", sum := "11888058b624e6e312d38ee556cf18d05e9c33d4a80da15c13dacc59a5d603e7", func := "sigil/sigillaw21.BlsProves", spec := "blsProves", inPlace := ["math/bits.Add64", "math/bits.Sub64"], unfollowed := true, recurses := true, named := ["math/bits.divideError", "math/bits.overflowError"], apart := false, narrowed := true }
def BlsProvesUptoSaid : Prop := blsProvesUptoRow.holds Tryz.pinned (OpenSpec.upto blsProvesSpec)

/-- 'sigillaw21.BlsSums', WHERE WHAT IT READS IS OF BULK AT MOST 1048576: true; the input reads as it did. -/
def blsSumsUptoRow : OpenClaim := { program := "ytfmajnlfpnjagaagreat", sum := "11888058b624e6e312d38ee556cf18d05e9c33d4a80da15c13dacc59a5d603e7", func := "sigil/sigillaw21.BlsSums", spec := "blsSums", inPlace := ["math/bits.Add64", "math/bits.Sub64"], unfollowed := true, recurses := true, named := ["math/bits.divideError", "math/bits.overflowError"], apart := false, narrowed := true }
def BlsSumsUptoSaid : Prop := blsSumsUptoRow.holds Tryz.pinned (OpenSpec.upto blsSumsSpec)

/-- 'sigillaw21.BlsVerifies', WHERE WHAT IT READS IS OF BULK AT MOST 1048576: true; the input reads as it did. -/
def blsVerifiesUptoRow : OpenClaim := { program := "ytfmajnlfpnjagaagreat", sum := "11888058b624e6e312d38ee556cf18d05e9c33d4a80da15c13dacc59a5d603e7", func := "sigil/sigillaw21.BlsVerifies", spec := "blsVerifies", inPlace := ["math/bits.Add64", "math/bits.Sub64"], unfollowed := true, recurses := true, named := ["math/bits.divideError", "math/bits.overflowError"], apart := false, narrowed := true }
def BlsVerifiesUptoSaid : Prop := blsVerifiesUptoRow.holds Tryz.pinned (OpenSpec.upto blsVerifiesSpec)

/-- 'sigillaw21.BlsTogether', WHERE WHAT IT READS IS OF BULK AT MOST 1048576: true; the input reads as it did. -/
def blsTogetherUptoRow : OpenClaim := { program := "ytfmajnlfpnjagaagreat", sum := "11888058b624e6e312d38ee556cf18d05e9c33d4a80da15c13dacc59a5d603e7", func := "sigil/sigillaw21.BlsTogether", spec := "blsTogether", inPlace := ["math/bits.Add64", "math/bits.Sub64"], unfollowed := true, recurses := true, named := ["math/bits.divideError", "math/bits.overflowError"], apart := false, narrowed := true }
def BlsTogetherUptoSaid : Prop := blsTogetherUptoRow.holds Tryz.pinned (OpenSpec.upto blsTogetherSpec)

/-- 'sigillaw21.BlsPossess', WHERE WHAT IT READS IS OF BULK AT MOST 1048576: true; the input reads as it did. -/
def blsPossessUptoRow : OpenClaim := { program := "ytfmajnlfpnjagaagreat", sum := "11888058b624e6e312d38ee556cf18d05e9c33d4a80da15c13dacc59a5d603e7", func := "sigil/sigillaw21.BlsPossess", spec := "blsPossess", inPlace := ["math/bits.Add64", "math/bits.Sub64"], unfollowed := true, recurses := true, named := ["math/bits.divideError", "math/bits.overflowError"], apart := false, narrowed := true }
def BlsPossessUptoSaid : Prop := blsPossessUptoRow.holds Tryz.pinned (OpenSpec.upto blsPossessSpec)

/-- 'sigillaw21.BlsFast', WHERE WHAT IT READS IS OF BULK AT MOST 1048576: true; the input reads as it did. -/
def blsFastUptoRow : OpenClaim := { program := "ytfmajnlfpnjagaagreat", sum := "11888058b624e6e312d38ee556cf18d05e9c33d4a80da15c13dacc59a5d603e7", func := "sigil/sigillaw21.BlsFast", spec := "blsFast", inPlace := ["math/bits.Add64", "math/bits.Sub64"], unfollowed := true, recurses := true, named := ["math/bits.divideError", "math/bits.overflowError"], apart := false, narrowed := true }
def BlsFastUptoSaid : Prop := blsFastUptoRow.holds Tryz.pinned (OpenSpec.upto blsFastSpec)

end Rows
end Go.Proofs.YtfmajnlfpnjagaaGreat
