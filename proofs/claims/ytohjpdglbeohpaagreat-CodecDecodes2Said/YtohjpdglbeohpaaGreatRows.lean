/-
  No cell of these rows narrows 'for every input' (looked for: loops, veiled, ifaces, maps, wideKeys, modest, calm, conditions, laid).
  DERIVED. THE GIVEN ROWS OF THIS SEAT. 4 by the template 'for every input the law returns true; each argument reads behind the call as it read before'; 0 by the template 'total and deterministic' (their statements: YtohjpdglbeohpaaGreatTotals.lean).
  GIVEN WITH THE SEED: the statements are not yours to turn. If you find one false, say at which input.
  Laid BY PROGRAM, IN A SANDBOX (cutbox-rows.mjs): the forced cells as the released guide's own fill.sh prints them over the translation 3cd1a4e798b064a7… (all of the seat's roots in one cut). By AI agents, Wed Nov 11 2026. No macro, syntax, notation, axiom, sorry.
-/
import Derived.Test.YtohjpdglbeohpaaGreatChecked
import GoSem.Claim
import GoSem.ClaimJoined
import GoSem.ClaimMapViews
import Derived.JoinedTies
import Derived.KernelRfl
namespace Go.Proofs.YtohjpdglbeohpaaGreat
/- THE CELL 'sum', in the pinned program and in every row, IS THE sha256 OF THE DUMP (.gsa) THAT YtohjpdglbeohpaaGreatProg.lean LOADS. Nothing in Lean hashes anything: it is a label: what it is worth is what the hold of that sum in a sandbox is worth. -/
noncomputable def Tryz.pinned : Pinned := { name := "ytohjpdglbeohpaagreat", sum := "3cd1a4e798b064a78375a1bb52cbab624d40b68438eefa00a371aeb47d694140", checked := Tryz.checked }
namespace Rows
def none {H : Type} : Left H := { results := [], args := [] }

/-- 'sigillaw20.CodecEncodes1': WHATEVER THE INPUT: true; the input reads as it did. -/
def codecEncodes1Spec : ChangeSpec := { name := "codecEncodes1", fn := fun _ => fun
  | [d1, d2] => { results := [.lit (.bool true)], args := [d1, d2] }
  | _ => none }
def codecEncodes1Row : OpenClaim := { program := "ytohjpdglbeohpaagreat", sum := "3cd1a4e798b064a78375a1bb52cbab624d40b68438eefa00a371aeb47d694140", func := "sigil/sigillaw20.CodecEncodes1", spec := "codecEncodes1", inPlace := ["math/bits.Sub64", "math/bits.Add64"], unfollowed := true, recurses := true, named := ["math/bits.divideError", "math/bits.overflowError"], apart := false }
def CodecEncodes1Said : Prop := codecEncodes1Row.holds Tryz.pinned (OpenSpec.ofChange codecEncodes1Spec)

/-- ITS FALSE NEIGHBOUR: 'it returns false'. Refute it at one input. -/
def codecEncodes1Wrong : ChangeSpec := { name := "codecEncodes1", fn := fun _ => fun
  | [d1, d2] => { results := [.lit (.bool false)], args := [d1, d2] }
  | _ => none }
def CodecEncodes1WrongFalsely : Prop := codecEncodes1Row.holds Tryz.pinned (OpenSpec.ofChange codecEncodes1Wrong)

/-- 'sigillaw20.CodecDecodes1': WHATEVER THE INPUT: true; the input reads as it did. -/
def codecDecodes1Spec : ChangeSpec := { name := "codecDecodes1", fn := fun _ => fun
  | [d1, d2] => { results := [.lit (.bool true)], args := [d1, d2] }
  | _ => none }
def codecDecodes1Row : OpenClaim := { program := "ytohjpdglbeohpaagreat", sum := "3cd1a4e798b064a78375a1bb52cbab624d40b68438eefa00a371aeb47d694140", func := "sigil/sigillaw20.CodecDecodes1", spec := "codecDecodes1", inPlace := ["math/bits.Sub64", "math/bits.Add64"], unfollowed := true, recurses := true, named := ["math/bits.divideError", "math/bits.overflowError"], apart := false }
def CodecDecodes1Said : Prop := codecDecodes1Row.holds Tryz.pinned (OpenSpec.ofChange codecDecodes1Spec)

/-- ITS FALSE NEIGHBOUR: 'it returns false'. Refute it at one input. -/
def codecDecodes1Wrong : ChangeSpec := { name := "codecDecodes1", fn := fun _ => fun
  | [d1, d2] => { results := [.lit (.bool false)], args := [d1, d2] }
  | _ => none }
def CodecDecodes1WrongFalsely : Prop := codecDecodes1Row.holds Tryz.pinned (OpenSpec.ofChange codecDecodes1Wrong)

/-- 'sigillaw20.CodecEncodes2': WHATEVER THE INPUT: true; the input reads as it did. -/
def codecEncodes2Spec : ChangeSpec := { name := "codecEncodes2", fn := fun _ => fun
  | [d1, d2] => { results := [.lit (.bool true)], args := [d1, d2] }
  | _ => none }
def codecEncodes2Row : OpenClaim := { program := "ytohjpdglbeohpaagreat", sum := "3cd1a4e798b064a78375a1bb52cbab624d40b68438eefa00a371aeb47d694140", func := "sigil/sigillaw20.CodecEncodes2", spec := "codecEncodes2", inPlace := ["math/bits.Sub64", "math/bits.Add64"], unfollowed := true, recurses := true, named := ["math/bits.divideError", "math/bits.overflowError"], apart := false }
def CodecEncodes2Said : Prop := codecEncodes2Row.holds Tryz.pinned (OpenSpec.ofChange codecEncodes2Spec)

/-- ITS FALSE NEIGHBOUR: 'it returns false'. Refute it at one input. -/
def codecEncodes2Wrong : ChangeSpec := { name := "codecEncodes2", fn := fun _ => fun
  | [d1, d2] => { results := [.lit (.bool false)], args := [d1, d2] }
  | _ => none }
def CodecEncodes2WrongFalsely : Prop := codecEncodes2Row.holds Tryz.pinned (OpenSpec.ofChange codecEncodes2Wrong)

/-- 'sigillaw20.CodecDecodes2': WHATEVER THE INPUT: true; the input reads as it did. -/
def codecDecodes2Spec : ChangeSpec := { name := "codecDecodes2", fn := fun _ => fun
  | [d1, d2] => { results := [.lit (.bool true)], args := [d1, d2] }
  | _ => none }
def codecDecodes2Row : OpenClaim := { program := "ytohjpdglbeohpaagreat", sum := "3cd1a4e798b064a78375a1bb52cbab624d40b68438eefa00a371aeb47d694140", func := "sigil/sigillaw20.CodecDecodes2", spec := "codecDecodes2", inPlace := ["math/bits.Sub64", "math/bits.Add64"], unfollowed := true, recurses := true, named := ["math/bits.divideError", "math/bits.overflowError"], apart := false }
def CodecDecodes2Said : Prop := codecDecodes2Row.holds Tryz.pinned (OpenSpec.ofChange codecDecodes2Spec)

/-- ITS FALSE NEIGHBOUR: 'it returns false'. Refute it at one input. -/
def codecDecodes2Wrong : ChangeSpec := { name := "codecDecodes2", fn := fun _ => fun
  | [d1, d2] => { results := [.lit (.bool false)], args := [d1, d2] }
  | _ => none }
def CodecDecodes2WrongFalsely : Prop := codecDecodes2Row.holds Tryz.pinned (OpenSpec.ofChange codecDecodes2Wrong)

/- THE SECOND FORM. 'bulk': how many values and letters a reading holds, each counted each time it is reached (what is shared counts as often as it is met; a slice's spare places count too). A statement '..UptoSaid' is the law's where the arguments, and the package variables that the reading takes, are together of bulk at most 1048576: NARROWER than '..Said'. Prove '..Said' where nothing that the law and all that it calls make is longer than what came in: it says more and counts as full. Else prove '..UptoSaid'. A law counts once. -/
mutual
def uptoBulk {H : Type} : DataW H → Nat
  | .lit (.string bytes) => bytes.length + 1
  | .lit _ => 1
  | .nil => 1
  | .ptr d => uptoBulk d + 1
  | .slice elems spare => uptoBulkAll elems + uptoBulkAll spare + 1
  | .agg parts => uptoBulkAll parts + 1
  | .iface _ d => uptoBulk d + 1
  | .map entries => uptoBulkEntries entries + 1
  | .held _ => 1
def uptoBulkAll {H : Type} : List (DataW H) → Nat
  | [] => 0
  | d :: r => uptoBulk d + uptoBulkAll r
def uptoBulkEntries {H : Type} : List (Lit × DataW H) → Nat
  | [] => 0
  | x :: r => uptoBulkEntry x + uptoBulkEntries r
def uptoBulkEntry {H : Type} : Lit × DataW H → Nat
  | (.string bytes, d) => bytes.length + uptoBulk d + 1
  | (_, d) => uptoBulk d + 1
 end
def uptoSmall : (H : Type) → List (DataW H) → Bool := fun _ ds => decide (uptoBulkAll ds ≤ 1048576)
def OpenSpec.upto (s : _root_.Go.ChangeSpec) : _root_.Go.OpenSpec := { _root_.Go.OpenSpec.ofChange s with cond := some uptoSmall }

/-- 'sigillaw20.CodecEncodes1', WHERE WHAT IT READS IS OF BULK AT MOST 1048576: true; the input reads as it did. -/
def codecEncodes1UptoRow : OpenClaim := { program := "ytohjpdglbeohpaagreat", sum := "3cd1a4e798b064a78375a1bb52cbab624d40b68438eefa00a371aeb47d694140", func := "sigil/sigillaw20.CodecEncodes1", spec := "codecEncodes1", inPlace := ["math/bits.Sub64", "math/bits.Add64"], unfollowed := true, recurses := true, named := ["math/bits.divideError", "math/bits.overflowError"], apart := false, narrowed := true }
def CodecEncodes1UptoSaid : Prop := codecEncodes1UptoRow.holds Tryz.pinned (OpenSpec.upto codecEncodes1Spec)

/-- 'sigillaw20.CodecDecodes1', WHERE WHAT IT READS IS OF BULK AT MOST 1048576: true; the input reads as it did. -/
def codecDecodes1UptoRow : OpenClaim := { program := "ytohjpdglbeohpaagreat", sum := "3cd1a4e798b064a78375a1bb52cbab624d40b68438eefa00a371aeb47d694140", func := "sigil/sigillaw20.CodecDecodes1", spec := "codecDecodes1", inPlace := ["math/bits.Sub64", "math/bits.Add64"], unfollowed := true, recurses := true, named := ["math/bits.divideError", "math/bits.overflowError"], apart := false, narrowed := true }
def CodecDecodes1UptoSaid : Prop := codecDecodes1UptoRow.holds Tryz.pinned (OpenSpec.upto codecDecodes1Spec)

/-- 'sigillaw20.CodecEncodes2', WHERE WHAT IT READS IS OF BULK AT MOST 1048576: true; the input reads as it did. -/
def codecEncodes2UptoRow : OpenClaim := { program := "ytohjpdglbeohpaagreat", sum := "3cd1a4e798b064a78375a1bb52cbab624d40b68438eefa00a371aeb47d694140", func := "sigil/sigillaw20.CodecEncodes2", spec := "codecEncodes2", inPlace := ["math/bits.Sub64", "math/bits.Add64"], unfollowed := true, recurses := true, named := ["math/bits.divideError", "math/bits.overflowError"], apart := false, narrowed := true }
def CodecEncodes2UptoSaid : Prop := codecEncodes2UptoRow.holds Tryz.pinned (OpenSpec.upto codecEncodes2Spec)

/-- 'sigillaw20.CodecDecodes2', WHERE WHAT IT READS IS OF BULK AT MOST 1048576: true; the input reads as it did. -/
def codecDecodes2UptoRow : OpenClaim := { program := "ytohjpdglbeohpaagreat", sum := "3cd1a4e798b064a78375a1bb52cbab624d40b68438eefa00a371aeb47d694140", func := "sigil/sigillaw20.CodecDecodes2", spec := "codecDecodes2", inPlace := ["math/bits.Sub64", "math/bits.Add64"], unfollowed := true, recurses := true, named := ["math/bits.divideError", "math/bits.overflowError"], apart := false, narrowed := true }
def CodecDecodes2UptoSaid : Prop := codecDecodes2UptoRow.holds Tryz.pinned (OpenSpec.upto codecDecodes2Spec)

end Rows
end Go.Proofs.YtohjpdglbeohpaaGreat
