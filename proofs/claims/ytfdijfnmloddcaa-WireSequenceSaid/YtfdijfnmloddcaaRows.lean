/-
  No cell of these rows narrows 'for every input' (looked for: loops, veiled, ifaces, maps, wideKeys, modest, calm, conditions, laid).
  DERIVED. THE GIVEN ROWS OF THIS SEAT. 10 by the template 'for every input the law returns true; each argument reads behind the call as it read before'; 0 by the template 'total and deterministic' (their statements: YtfdijfnmloddcaaTotals.lean).
  GIVEN WITH THE SEED: the statements are not yours to turn. If you find one false, say at which input.
  Laid BY PROGRAM, IN A SANDBOX (cutbox-rows.mjs): the forced cells as the released guide's own fill.sh prints them over the translation 55a17dc7af3dbe3a… (all of the seat's roots in one cut). By AI agents, Wed Nov 11 2026. No macro, syntax, notation, axiom, sorry.
-/
import Derived.Test.YtfdijfnmloddcaaChecked
import GoSem.Claim
import GoSem.ClaimJoined
import GoSem.ClaimMapViews
import Derived.JoinedTies
import Derived.KernelRfl
namespace Go.Proofs.Ytfdijfnmloddcaa
/- THE CELL 'sum', in the pinned program and in every row, IS THE sha256 OF THE DUMP (.gsa) THAT YtfdijfnmloddcaaProg.lean LOADS. Nothing in Lean hashes anything: it is a label: what it is worth is what the hold of that sum in a sandbox is worth. -/
noncomputable def Try.pinned : Pinned := { name := "ytfdijfnmloddcaa", sum := "55a17dc7af3dbe3ae36b7f2f8d52af1a2f83a50d02e5fb1f8e586fcc31fddba1", checked := Try.checked }
namespace Rows
def none {H : Type} : Left H := { results := [], args := [] }

/-- 'elasticstorelaw01.WireUintEncode': WHATEVER THE INPUT: true; the input reads as it did. -/
def wireUintEncodeSpec : ChangeSpec := { name := "wireUintEncode", fn := fun _ => fun
  | [d1, d2] => { results := [.lit (.bool true)], args := [d1, d2] }
  | _ => none }
def wireUintEncodeRow : OpenClaim := { program := "ytfdijfnmloddcaa", sum := "55a17dc7af3dbe3ae36b7f2f8d52af1a2f83a50d02e5fb1f8e586fcc31fddba1", func := "elasticstore/elasticstorelaw01.WireUintEncode", spec := "wireUintEncode", apart := false }
def WireUintEncodeSaid : Prop := wireUintEncodeRow.holds Try.pinned (OpenSpec.ofChange wireUintEncodeSpec)

/-- ITS FALSE NEIGHBOUR: 'it returns false'. Refute it at one input. -/
def wireUintEncodeWrong : ChangeSpec := { name := "wireUintEncode", fn := fun _ => fun
  | [d1, d2] => { results := [.lit (.bool false)], args := [d1, d2] }
  | _ => none }
def WireUintEncodeWrongFalsely : Prop := wireUintEncodeRow.holds Try.pinned (OpenSpec.ofChange wireUintEncodeWrong)

/-- 'elasticstorelaw01.WireUintDecode': WHATEVER THE INPUT: true; the input reads as it did. -/
def wireUintDecodeSpec : ChangeSpec := { name := "wireUintDecode", fn := fun _ => fun
  | [d] => { results := [.lit (.bool true)], args := [d] }
  | _ => none }
def wireUintDecodeRow : OpenClaim := { program := "ytfdijfnmloddcaa", sum := "55a17dc7af3dbe3ae36b7f2f8d52af1a2f83a50d02e5fb1f8e586fcc31fddba1", func := "elasticstore/elasticstorelaw01.WireUintDecode", spec := "wireUintDecode", apart := false }
def WireUintDecodeSaid : Prop := wireUintDecodeRow.holds Try.pinned (OpenSpec.ofChange wireUintDecodeSpec)

/-- ITS FALSE NEIGHBOUR: 'it returns false'. Refute it at one input. -/
def wireUintDecodeWrong : ChangeSpec := { name := "wireUintDecode", fn := fun _ => fun
  | [d] => { results := [.lit (.bool false)], args := [d] }
  | _ => none }
def WireUintDecodeWrongFalsely : Prop := wireUintDecodeRow.holds Try.pinned (OpenSpec.ofChange wireUintDecodeWrong)

/-- 'elasticstorelaw01.WireUintRoundTrip': WHATEVER THE INPUT: true; the input reads as it did. -/
def wireUintRoundTripSpec : ChangeSpec := { name := "wireUintRoundTrip", fn := fun _ => fun
  | [d1, d2] => { results := [.lit (.bool true)], args := [d1, d2] }
  | _ => none }
def wireUintRoundTripRow : OpenClaim := { program := "ytfdijfnmloddcaa", sum := "55a17dc7af3dbe3ae36b7f2f8d52af1a2f83a50d02e5fb1f8e586fcc31fddba1", func := "elasticstore/elasticstorelaw01.WireUintRoundTrip", spec := "wireUintRoundTrip", apart := false }
def WireUintRoundTripSaid : Prop := wireUintRoundTripRow.holds Try.pinned (OpenSpec.ofChange wireUintRoundTripSpec)

/-- ITS FALSE NEIGHBOUR: 'it returns false'. Refute it at one input. -/
def wireUintRoundTripWrong : ChangeSpec := { name := "wireUintRoundTrip", fn := fun _ => fun
  | [d1, d2] => { results := [.lit (.bool false)], args := [d1, d2] }
  | _ => none }
def WireUintRoundTripWrongFalsely : Prop := wireUintRoundTripRow.holds Try.pinned (OpenSpec.ofChange wireUintRoundTripWrong)

/-- 'elasticstorelaw01.WireUintLength': WHATEVER THE INPUT: true; the input reads as it did. -/
def wireUintLengthSpec : ChangeSpec := { name := "wireUintLength", fn := fun _ => fun
  | [d1, d2] => { results := [.lit (.bool true)], args := [d1, d2] }
  | _ => none }
def wireUintLengthRow : OpenClaim := { program := "ytfdijfnmloddcaa", sum := "55a17dc7af3dbe3ae36b7f2f8d52af1a2f83a50d02e5fb1f8e586fcc31fddba1", func := "elasticstore/elasticstorelaw01.WireUintLength", spec := "wireUintLength", apart := false }
def WireUintLengthSaid : Prop := wireUintLengthRow.holds Try.pinned (OpenSpec.ofChange wireUintLengthSpec)

/-- ITS FALSE NEIGHBOUR: 'it returns false'. Refute it at one input. -/
def wireUintLengthWrong : ChangeSpec := { name := "wireUintLength", fn := fun _ => fun
  | [d1, d2] => { results := [.lit (.bool false)], args := [d1, d2] }
  | _ => none }
def WireUintLengthWrongFalsely : Prop := wireUintLengthRow.holds Try.pinned (OpenSpec.ofChange wireUintLengthWrong)

/-- 'elasticstorelaw01.WireIntRoundTrip': WHATEVER THE INPUT: true; the input reads as it did. -/
def wireIntRoundTripSpec : ChangeSpec := { name := "wireIntRoundTrip", fn := fun _ => fun
  | [d1, d2] => { results := [.lit (.bool true)], args := [d1, d2] }
  | _ => none }
def wireIntRoundTripRow : OpenClaim := { program := "ytfdijfnmloddcaa", sum := "55a17dc7af3dbe3ae36b7f2f8d52af1a2f83a50d02e5fb1f8e586fcc31fddba1", func := "elasticstore/elasticstorelaw01.WireIntRoundTrip", spec := "wireIntRoundTrip", apart := false }
def WireIntRoundTripSaid : Prop := wireIntRoundTripRow.holds Try.pinned (OpenSpec.ofChange wireIntRoundTripSpec)

/-- ITS FALSE NEIGHBOUR: 'it returns false'. Refute it at one input. -/
def wireIntRoundTripWrong : ChangeSpec := { name := "wireIntRoundTrip", fn := fun _ => fun
  | [d1, d2] => { results := [.lit (.bool false)], args := [d1, d2] }
  | _ => none }
def WireIntRoundTripWrongFalsely : Prop := wireIntRoundTripRow.holds Try.pinned (OpenSpec.ofChange wireIntRoundTripWrong)

/-- 'elasticstorelaw01.WireIntDecode': WHATEVER THE INPUT: true; the input reads as it did. -/
def wireIntDecodeSpec : ChangeSpec := { name := "wireIntDecode", fn := fun _ => fun
  | [d] => { results := [.lit (.bool true)], args := [d] }
  | _ => none }
def wireIntDecodeRow : OpenClaim := { program := "ytfdijfnmloddcaa", sum := "55a17dc7af3dbe3ae36b7f2f8d52af1a2f83a50d02e5fb1f8e586fcc31fddba1", func := "elasticstore/elasticstorelaw01.WireIntDecode", spec := "wireIntDecode", apart := false }
def WireIntDecodeSaid : Prop := wireIntDecodeRow.holds Try.pinned (OpenSpec.ofChange wireIntDecodeSpec)

/-- ITS FALSE NEIGHBOUR: 'it returns false'. Refute it at one input. -/
def wireIntDecodeWrong : ChangeSpec := { name := "wireIntDecode", fn := fun _ => fun
  | [d] => { results := [.lit (.bool false)], args := [d] }
  | _ => none }
def WireIntDecodeWrongFalsely : Prop := wireIntDecodeRow.holds Try.pinned (OpenSpec.ofChange wireIntDecodeWrong)

/-- 'elasticstorelaw01.WireStringRoundTrip': WHATEVER THE INPUT: true; the input reads as it did. -/
def wireStringRoundTripSpec : ChangeSpec := { name := "wireStringRoundTrip", fn := fun _ => fun
  | [d1, d2] => { results := [.lit (.bool true)], args := [d1, d2] }
  | _ => none }
def wireStringRoundTripRow : OpenClaim := { program := "ytfdijfnmloddcaa", sum := "55a17dc7af3dbe3ae36b7f2f8d52af1a2f83a50d02e5fb1f8e586fcc31fddba1", func := "elasticstore/elasticstorelaw01.WireStringRoundTrip", spec := "wireStringRoundTrip", apart := false }
def WireStringRoundTripSaid : Prop := wireStringRoundTripRow.holds Try.pinned (OpenSpec.ofChange wireStringRoundTripSpec)

/-- ITS FALSE NEIGHBOUR: 'it returns false'. Refute it at one input. -/
def wireStringRoundTripWrong : ChangeSpec := { name := "wireStringRoundTrip", fn := fun _ => fun
  | [d1, d2] => { results := [.lit (.bool false)], args := [d1, d2] }
  | _ => none }
def WireStringRoundTripWrongFalsely : Prop := wireStringRoundTripRow.holds Try.pinned (OpenSpec.ofChange wireStringRoundTripWrong)

/-- 'elasticstorelaw01.WireStringDecode': WHATEVER THE INPUT: true; the input reads as it did. -/
def wireStringDecodeSpec : ChangeSpec := { name := "wireStringDecode", fn := fun _ => fun
  | [d] => { results := [.lit (.bool true)], args := [d] }
  | _ => none }
def wireStringDecodeRow : OpenClaim := { program := "ytfdijfnmloddcaa", sum := "55a17dc7af3dbe3ae36b7f2f8d52af1a2f83a50d02e5fb1f8e586fcc31fddba1", func := "elasticstore/elasticstorelaw01.WireStringDecode", spec := "wireStringDecode", apart := false }
def WireStringDecodeSaid : Prop := wireStringDecodeRow.holds Try.pinned (OpenSpec.ofChange wireStringDecodeSpec)

/-- ITS FALSE NEIGHBOUR: 'it returns false'. Refute it at one input. -/
def wireStringDecodeWrong : ChangeSpec := { name := "wireStringDecode", fn := fun _ => fun
  | [d] => { results := [.lit (.bool false)], args := [d] }
  | _ => none }
def WireStringDecodeWrongFalsely : Prop := wireStringDecodeRow.holds Try.pinned (OpenSpec.ofChange wireStringDecodeWrong)

/-- 'elasticstorelaw01.WireBoolAll': WHATEVER THE INPUT: true; the input reads as it did. -/
def wireBoolAllSpec : ChangeSpec := { name := "wireBoolAll", fn := fun _ => fun
  | [d1, d2] => { results := [.lit (.bool true)], args := [d1, d2] }
  | _ => none }
def wireBoolAllRow : OpenClaim := { program := "ytfdijfnmloddcaa", sum := "55a17dc7af3dbe3ae36b7f2f8d52af1a2f83a50d02e5fb1f8e586fcc31fddba1", func := "elasticstore/elasticstorelaw01.WireBoolAll", spec := "wireBoolAll", apart := false }
def WireBoolAllSaid : Prop := wireBoolAllRow.holds Try.pinned (OpenSpec.ofChange wireBoolAllSpec)

/-- ITS FALSE NEIGHBOUR: 'it returns false'. Refute it at one input. -/
def wireBoolAllWrong : ChangeSpec := { name := "wireBoolAll", fn := fun _ => fun
  | [d1, d2] => { results := [.lit (.bool false)], args := [d1, d2] }
  | _ => none }
def WireBoolAllWrongFalsely : Prop := wireBoolAllRow.holds Try.pinned (OpenSpec.ofChange wireBoolAllWrong)

/-- 'elasticstorelaw01.WireSequence': WHATEVER THE INPUT: true; the input reads as it did. -/
def wireSequenceSpec : ChangeSpec := { name := "wireSequence", fn := fun _ => fun
  | [d1, d2, d3] => { results := [.lit (.bool true)], args := [d1, d2, d3] }
  | _ => none }
def wireSequenceRow : OpenClaim := { program := "ytfdijfnmloddcaa", sum := "55a17dc7af3dbe3ae36b7f2f8d52af1a2f83a50d02e5fb1f8e586fcc31fddba1", func := "elasticstore/elasticstorelaw01.WireSequence", spec := "wireSequence", apart := false }
def WireSequenceSaid : Prop := wireSequenceRow.holds Try.pinned (OpenSpec.ofChange wireSequenceSpec)

/-- ITS FALSE NEIGHBOUR: 'it returns false'. Refute it at one input. -/
def wireSequenceWrong : ChangeSpec := { name := "wireSequence", fn := fun _ => fun
  | [d1, d2, d3] => { results := [.lit (.bool false)], args := [d1, d2, d3] }
  | _ => none }
def WireSequenceWrongFalsely : Prop := wireSequenceRow.holds Try.pinned (OpenSpec.ofChange wireSequenceWrong)

/- THE SECOND FORM. 'bulk': how many values and letters a reading holds, each counted each time it is reached (what is shared counts as often as it is met; a slice's spare places count too). A statement '..UptoSaid' is the law's where the arguments, and the package variables that the reading takes, are together of bulk at most 1048576: NARROWER than '..Said'. Prove '..Said' where nothing that the law and all that it calls make is longer than what came in: it says more and counts as full. Else prove '..UptoSaid'. A law counts once. -/
mutual
def uptoBulk {H : Type} : DataW H → Nat
  | .lit (.string bytes) => bytes.length + 1
  | .lit _ => 1
  | .nil => 1
  | .ptr d => uptoBulk d + 1
  | .slice elems spare => uptoBulkAll elems + uptoBulkAll spare + 1
  | .agg parts => uptoBulkAll parts + 1
  | .iface _ d => uptoBulk d + 1
  | .map entries => uptoBulkEntries entries + 1
  | .held _ => 1
def uptoBulkAll {H : Type} : List (DataW H) → Nat
  | [] => 0
  | d :: r => uptoBulk d + uptoBulkAll r
def uptoBulkEntries {H : Type} : List (Lit × DataW H) → Nat
  | [] => 0
  | x :: r => uptoBulkEntry x + uptoBulkEntries r
def uptoBulkEntry {H : Type} : Lit × DataW H → Nat
  | (.string bytes, d) => bytes.length + uptoBulk d + 1
  | (_, d) => uptoBulk d + 1
 end
def uptoSmall : (H : Type) → List (DataW H) → Bool := fun _ ds => decide (uptoBulkAll ds ≤ 1048576)
def OpenSpec.upto (s : _root_.Go.ChangeSpec) : _root_.Go.OpenSpec := { _root_.Go.OpenSpec.ofChange s with cond := some uptoSmall }

/-- 'elasticstorelaw01.WireUintEncode', WHERE WHAT IT READS IS OF BULK AT MOST 1048576: true; the input reads as it did. -/
def wireUintEncodeUptoRow : OpenClaim := { program := "ytfdijfnmloddcaa", sum := "55a17dc7af3dbe3ae36b7f2f8d52af1a2f83a50d02e5fb1f8e586fcc31fddba1", func := "elasticstore/elasticstorelaw01.WireUintEncode", spec := "wireUintEncode", apart := false, narrowed := true }
def WireUintEncodeUptoSaid : Prop := wireUintEncodeUptoRow.holds Try.pinned (OpenSpec.upto wireUintEncodeSpec)

/-- 'elasticstorelaw01.WireUintDecode', WHERE WHAT IT READS IS OF BULK AT MOST 1048576: true; the input reads as it did. -/
def wireUintDecodeUptoRow : OpenClaim := { program := "ytfdijfnmloddcaa", sum := "55a17dc7af3dbe3ae36b7f2f8d52af1a2f83a50d02e5fb1f8e586fcc31fddba1", func := "elasticstore/elasticstorelaw01.WireUintDecode", spec := "wireUintDecode", apart := false, narrowed := true }
def WireUintDecodeUptoSaid : Prop := wireUintDecodeUptoRow.holds Try.pinned (OpenSpec.upto wireUintDecodeSpec)

/-- 'elasticstorelaw01.WireUintRoundTrip', WHERE WHAT IT READS IS OF BULK AT MOST 1048576: true; the input reads as it did. -/
def wireUintRoundTripUptoRow : OpenClaim := { program := "ytfdijfnmloddcaa", sum := "55a17dc7af3dbe3ae36b7f2f8d52af1a2f83a50d02e5fb1f8e586fcc31fddba1", func := "elasticstore/elasticstorelaw01.WireUintRoundTrip", spec := "wireUintRoundTrip", apart := false, narrowed := true }
def WireUintRoundTripUptoSaid : Prop := wireUintRoundTripUptoRow.holds Try.pinned (OpenSpec.upto wireUintRoundTripSpec)

/-- 'elasticstorelaw01.WireUintLength', WHERE WHAT IT READS IS OF BULK AT MOST 1048576: true; the input reads as it did. -/
def wireUintLengthUptoRow : OpenClaim := { program := "ytfdijfnmloddcaa", sum := "55a17dc7af3dbe3ae36b7f2f8d52af1a2f83a50d02e5fb1f8e586fcc31fddba1", func := "elasticstore/elasticstorelaw01.WireUintLength", spec := "wireUintLength", apart := false, narrowed := true }
def WireUintLengthUptoSaid : Prop := wireUintLengthUptoRow.holds Try.pinned (OpenSpec.upto wireUintLengthSpec)

/-- 'elasticstorelaw01.WireIntRoundTrip', WHERE WHAT IT READS IS OF BULK AT MOST 1048576: true; the input reads as it did. -/
def wireIntRoundTripUptoRow : OpenClaim := { program := "ytfdijfnmloddcaa", sum := "55a17dc7af3dbe3ae36b7f2f8d52af1a2f83a50d02e5fb1f8e586fcc31fddba1", func := "elasticstore/elasticstorelaw01.WireIntRoundTrip", spec := "wireIntRoundTrip", apart := false, narrowed := true }
def WireIntRoundTripUptoSaid : Prop := wireIntRoundTripUptoRow.holds Try.pinned (OpenSpec.upto wireIntRoundTripSpec)

/-- 'elasticstorelaw01.WireIntDecode', WHERE WHAT IT READS IS OF BULK AT MOST 1048576: true; the input reads as it did. -/
def wireIntDecodeUptoRow : OpenClaim := { program := "ytfdijfnmloddcaa", sum := "55a17dc7af3dbe3ae36b7f2f8d52af1a2f83a50d02e5fb1f8e586fcc31fddba1", func := "elasticstore/elasticstorelaw01.WireIntDecode", spec := "wireIntDecode", apart := false, narrowed := true }
def WireIntDecodeUptoSaid : Prop := wireIntDecodeUptoRow.holds Try.pinned (OpenSpec.upto wireIntDecodeSpec)

/-- 'elasticstorelaw01.WireStringRoundTrip', WHERE WHAT IT READS IS OF BULK AT MOST 1048576: true; the input reads as it did. -/
def wireStringRoundTripUptoRow : OpenClaim := { program := "ytfdijfnmloddcaa", sum := "55a17dc7af3dbe3ae36b7f2f8d52af1a2f83a50d02e5fb1f8e586fcc31fddba1", func := "elasticstore/elasticstorelaw01.WireStringRoundTrip", spec := "wireStringRoundTrip", apart := false, narrowed := true }
def WireStringRoundTripUptoSaid : Prop := wireStringRoundTripUptoRow.holds Try.pinned (OpenSpec.upto wireStringRoundTripSpec)

/-- 'elasticstorelaw01.WireStringDecode', WHERE WHAT IT READS IS OF BULK AT MOST 1048576: true; the input reads as it did. -/
def wireStringDecodeUptoRow : OpenClaim := { program := "ytfdijfnmloddcaa", sum := "55a17dc7af3dbe3ae36b7f2f8d52af1a2f83a50d02e5fb1f8e586fcc31fddba1", func := "elasticstore/elasticstorelaw01.WireStringDecode", spec := "wireStringDecode", apart := false, narrowed := true }
def WireStringDecodeUptoSaid : Prop := wireStringDecodeUptoRow.holds Try.pinned (OpenSpec.upto wireStringDecodeSpec)

/-- 'elasticstorelaw01.WireBoolAll', WHERE WHAT IT READS IS OF BULK AT MOST 1048576: true; the input reads as it did. -/
def wireBoolAllUptoRow : OpenClaim := { program := "ytfdijfnmloddcaa", sum := "55a17dc7af3dbe3ae36b7f2f8d52af1a2f83a50d02e5fb1f8e586fcc31fddba1", func := "elasticstore/elasticstorelaw01.WireBoolAll", spec := "wireBoolAll", apart := false, narrowed := true }
def WireBoolAllUptoSaid : Prop := wireBoolAllUptoRow.holds Try.pinned (OpenSpec.upto wireBoolAllSpec)

/-- 'elasticstorelaw01.WireSequence', WHERE WHAT IT READS IS OF BULK AT MOST 1048576: true; the input reads as it did. -/
def wireSequenceUptoRow : OpenClaim := { program := "ytfdijfnmloddcaa", sum := "55a17dc7af3dbe3ae36b7f2f8d52af1a2f83a50d02e5fb1f8e586fcc31fddba1", func := "elasticstore/elasticstorelaw01.WireSequence", spec := "wireSequence", apart := false, narrowed := true }
def WireSequenceUptoSaid : Prop := wireSequenceUptoRow.holds Try.pinned (OpenSpec.upto wireSequenceSpec)

end Rows
end Go.Proofs.Ytfdijfnmloddcaa
