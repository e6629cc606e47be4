/-
  No cell of these rows narrows 'for every input' (looked for: loops, veiled, ifaces, maps, wideKeys, modest, calm, conditions, laid).
  DERIVED. THE GIVEN ROWS OF THIS SEAT. 8 by the template 'for every input the law returns true; each argument reads behind the call as it read before'; 0 by the template 'total and deterministic' (their statements: YtkfpacklpelefaaTotals.lean).
  GIVEN WITH THE SEED: the statements are not yours to turn. If you find one false, say at which input.
  Laid BY PROGRAM, IN A SANDBOX (cutbox-rows.mjs): the forced cells as the released guide's own fill.sh prints them over the translation d762fb297ee15f81… (all of the seat's roots in one cut). By AI agents, Wed Nov 11 2026. No macro, syntax, notation, axiom, sorry.
-/
import Derived.Test.YtkfpacklpelefaaChecked
import GoSem.Claim
import GoSem.ClaimJoined
import GoSem.ClaimMapViews
import Derived.JoinedTies
import Derived.KernelRfl
namespace Go.Proofs.Ytkfpacklpelefaa
/- THE CELL 'sum', in the pinned program and in every row, IS THE sha256 OF THE DUMP (.gsa) THAT YtkfpacklpelefaaProg.lean LOADS. Nothing in Lean hashes anything: it is a label: what it is worth is what the hold of that sum in a sandbox is worth. -/
noncomputable def Try.pinned : Pinned := { name := "ytkfpacklpelefaa", sum := "d762fb297ee15f81b4ee80e3d13f53ce92d38a4e0f3b847504fb9a40098190c6", checked := Try.checked }
namespace Rows
def none {H : Type} : Left H := { results := [], args := [] }

/-- 'interleavelaw10.ObjectSum': WHATEVER THE INPUT: true; the input reads as it did. -/
def objectSumSpec : ChangeSpec := { name := "objectSum", fn := fun _ => fun
  | [d] => { results := [.lit (.bool true)], args := [d] }
  | _ => none }
def objectSumRow : OpenClaim := { program := "ytkfpacklpelefaa", sum := "d762fb297ee15f81b4ee80e3d13f53ce92d38a4e0f3b847504fb9a40098190c6", func := "interleave/interleavelaw10.ObjectSum", spec := "objectSum", unfollowed := true, recurses := true, apart := false }
def ObjectSumSaid : Prop := objectSumRow.holds Try.pinned (OpenSpec.ofChange objectSumSpec)

/-- ITS FALSE NEIGHBOUR: 'it returns false'. Refute it at one input. -/
def objectSumWrong : ChangeSpec := { name := "objectSum", fn := fun _ => fun
  | [d] => { results := [.lit (.bool false)], args := [d] }
  | _ => none }
def ObjectSumWrongFalsely : Prop := objectSumRow.holds Try.pinned (OpenSpec.ofChange objectSumWrong)

/-- 'interleavelaw10.ObjectEncode': WHATEVER THE INPUT: true; the input reads as it did. -/
def objectEncodeSpec : ChangeSpec := { name := "objectEncode", fn := fun _ => fun
  | [d] => { results := [.lit (.bool true)], args := [d] }
  | _ => none }
def objectEncodeRow : OpenClaim := { program := "ytkfpacklpelefaa", sum := "d762fb297ee15f81b4ee80e3d13f53ce92d38a4e0f3b847504fb9a40098190c6", func := "interleave/interleavelaw10.ObjectEncode", spec := "objectEncode", unfollowed := true, recurses := true, apart := false }
def ObjectEncodeSaid : Prop := objectEncodeRow.holds Try.pinned (OpenSpec.ofChange objectEncodeSpec)

/-- ITS FALSE NEIGHBOUR: 'it returns false'. Refute it at one input. -/
def objectEncodeWrong : ChangeSpec := { name := "objectEncode", fn := fun _ => fun
  | [d] => { results := [.lit (.bool false)], args := [d] }
  | _ => none }
def ObjectEncodeWrongFalsely : Prop := objectEncodeRow.holds Try.pinned (OpenSpec.ofChange objectEncodeWrong)

/-- 'interleavelaw10.ObjectDecode': WHATEVER THE INPUT: true; the input reads as it did. -/
def objectDecodeSpec : ChangeSpec := { name := "objectDecode", fn := fun _ => fun
  | [d] => { results := [.lit (.bool true)], args := [d] }
  | _ => none }
def objectDecodeRow : OpenClaim := { program := "ytkfpacklpelefaa", sum := "d762fb297ee15f81b4ee80e3d13f53ce92d38a4e0f3b847504fb9a40098190c6", func := "interleave/interleavelaw10.ObjectDecode", spec := "objectDecode", unfollowed := true, recurses := true, apart := false }
def ObjectDecodeSaid : Prop := objectDecodeRow.holds Try.pinned (OpenSpec.ofChange objectDecodeSpec)

/-- ITS FALSE NEIGHBOUR: 'it returns false'. Refute it at one input. -/
def objectDecodeWrong : ChangeSpec := { name := "objectDecode", fn := fun _ => fun
  | [d] => { results := [.lit (.bool false)], args := [d] }
  | _ => none }
def ObjectDecodeWrongFalsely : Prop := objectDecodeRow.holds Try.pinned (OpenSpec.ofChange objectDecodeWrong)

/-- 'interleavelaw10.ObjectSealed': WHATEVER THE INPUT: true; the input reads as it did. -/
def objectSealedSpec : ChangeSpec := { name := "objectSealed", fn := fun _ => fun
  | [d] => { results := [.lit (.bool true)], args := [d] }
  | _ => none }
def objectSealedRow : OpenClaim := { program := "ytkfpacklpelefaa", sum := "d762fb297ee15f81b4ee80e3d13f53ce92d38a4e0f3b847504fb9a40098190c6", func := "interleave/interleavelaw10.ObjectSealed", spec := "objectSealed", unfollowed := true, recurses := true, apart := false }
def ObjectSealedSaid : Prop := objectSealedRow.holds Try.pinned (OpenSpec.ofChange objectSealedSpec)

/-- ITS FALSE NEIGHBOUR: 'it returns false'. Refute it at one input. -/
def objectSealedWrong : ChangeSpec := { name := "objectSealed", fn := fun _ => fun
  | [d] => { results := [.lit (.bool false)], args := [d] }
  | _ => none }
def ObjectSealedWrongFalsely : Prop := objectSealedRow.holds Try.pinned (OpenSpec.ofChange objectSealedWrong)

/-- 'interleavelaw10.ObjectInvalid': WHATEVER THE INPUT: true; the input reads as it did. -/
def objectInvalidSpec : ChangeSpec := { name := "objectInvalid", fn := fun _ => fun
  | [d] => { results := [.lit (.bool true)], args := [d] }
  | _ => none }
def objectInvalidRow : OpenClaim := { program := "ytkfpacklpelefaa", sum := "d762fb297ee15f81b4ee80e3d13f53ce92d38a4e0f3b847504fb9a40098190c6", func := "interleave/interleavelaw10.ObjectInvalid", spec := "objectInvalid", unfollowed := true, recurses := true, apart := false }
def ObjectInvalidSaid : Prop := objectInvalidRow.holds Try.pinned (OpenSpec.ofChange objectInvalidSpec)

/-- ITS FALSE NEIGHBOUR: 'it returns false'. Refute it at one input. -/
def objectInvalidWrong : ChangeSpec := { name := "objectInvalid", fn := fun _ => fun
  | [d] => { results := [.lit (.bool false)], args := [d] }
  | _ => none }
def ObjectInvalidWrongFalsely : Prop := objectInvalidRow.holds Try.pinned (OpenSpec.ofChange objectInvalidWrong)

/-- 'interleavelaw10.ObjectTrips': WHATEVER THE INPUT: true; the input reads as it did. -/
def objectTripsSpec : ChangeSpec := { name := "objectTrips", fn := fun _ => fun
  | [d] => { results := [.lit (.bool true)], args := [d] }
  | _ => none }
def objectTripsRow : OpenClaim := { program := "ytkfpacklpelefaa", sum := "d762fb297ee15f81b4ee80e3d13f53ce92d38a4e0f3b847504fb9a40098190c6", func := "interleave/interleavelaw10.ObjectTrips", spec := "objectTrips", unfollowed := true, recurses := true, apart := false }
def ObjectTripsSaid : Prop := objectTripsRow.holds Try.pinned (OpenSpec.ofChange objectTripsSpec)

/-- ITS FALSE NEIGHBOUR: 'it returns false'. Refute it at one input. -/
def objectTripsWrong : ChangeSpec := { name := "objectTrips", fn := fun _ => fun
  | [d] => { results := [.lit (.bool false)], args := [d] }
  | _ => none }
def ObjectTripsWrongFalsely : Prop := objectTripsRow.holds Try.pinned (OpenSpec.ofChange objectTripsWrong)

/-- 'interleavelaw10.ObjectOnto': WHATEVER THE INPUT: true; the input reads as it did. -/
def objectOntoSpec : ChangeSpec := { name := "objectOnto", fn := fun _ => fun
  | [d] => { results := [.lit (.bool true)], args := [d] }
  | _ => none }
def objectOntoRow : OpenClaim := { program := "ytkfpacklpelefaa", sum := "d762fb297ee15f81b4ee80e3d13f53ce92d38a4e0f3b847504fb9a40098190c6", func := "interleave/interleavelaw10.ObjectOnto", spec := "objectOnto", unfollowed := true, recurses := true, apart := false }
def ObjectOntoSaid : Prop := objectOntoRow.holds Try.pinned (OpenSpec.ofChange objectOntoSpec)

/-- ITS FALSE NEIGHBOUR: 'it returns false'. Refute it at one input. -/
def objectOntoWrong : ChangeSpec := { name := "objectOnto", fn := fun _ => fun
  | [d] => { results := [.lit (.bool false)], args := [d] }
  | _ => none }
def ObjectOntoWrongFalsely : Prop := objectOntoRow.holds Try.pinned (OpenSpec.ofChange objectOntoWrong)

/-- 'interleavelaw10.ObjectSpoilt': WHATEVER THE INPUT: true; the input reads as it did. -/
def objectSpoiltSpec : ChangeSpec := { name := "objectSpoilt", fn := fun _ => fun
  | [d1, d2, d3] => { results := [.lit (.bool true)], args := [d1, d2, d3] }
  | _ => none }
def objectSpoiltRow : OpenClaim := { program := "ytkfpacklpelefaa", sum := "d762fb297ee15f81b4ee80e3d13f53ce92d38a4e0f3b847504fb9a40098190c6", func := "interleave/interleavelaw10.ObjectSpoilt", spec := "objectSpoilt", unfollowed := true, recurses := true, apart := false }
def ObjectSpoiltSaid : Prop := objectSpoiltRow.holds Try.pinned (OpenSpec.ofChange objectSpoiltSpec)

/-- ITS FALSE NEIGHBOUR: 'it returns false'. Refute it at one input. -/
def objectSpoiltWrong : ChangeSpec := { name := "objectSpoilt", fn := fun _ => fun
  | [d1, d2, d3] => { results := [.lit (.bool false)], args := [d1, d2, d3] }
  | _ => none }
def ObjectSpoiltWrongFalsely : Prop := objectSpoiltRow.holds Try.pinned (OpenSpec.ofChange objectSpoiltWrong)

/- THE SECOND FORM. 'bulk': how many values and letters a reading holds, each counted each time it is reached (what is shared counts as often as it is met; a slice's spare places count too). A statement '..UptoSaid' is the law's where the arguments, and the package variables that the reading takes, are together of bulk at most 1048576: NARROWER than '..Said'. Prove '..Said' where nothing that the law and all that it calls make is longer than what came in: it says more and counts as full. Else prove '..UptoSaid'. A law counts once. -/
mutual
def uptoBulk {H : Type} : DataW H → Nat
  | .lit (.string bytes) => bytes.length + 1
  | .lit _ => 1
  | .nil => 1
  | .ptr d => uptoBulk d + 1
  | .slice elems spare => uptoBulkAll elems + uptoBulkAll spare + 1
  | .agg parts => uptoBulkAll parts + 1
  | .iface _ d => uptoBulk d + 1
  | .map entries => uptoBulkEntries entries + 1
  | .held _ => 1
def uptoBulkAll {H : Type} : List (DataW H) → Nat
  | [] => 0
  | d :: r => uptoBulk d + uptoBulkAll r
def uptoBulkEntries {H : Type} : List (Lit × DataW H) → Nat
  | [] => 0
  | x :: r => uptoBulkEntry x + uptoBulkEntries r
def uptoBulkEntry {H : Type} : Lit × DataW H → Nat
  | (.string bytes, d) => bytes.length + uptoBulk d + 1
  | (_, d) => uptoBulk d + 1
 end
def uptoSmall : (H : Type) → List (DataW H) → Bool := fun _ ds => decide (uptoBulkAll ds ≤ 1048576)
def OpenSpec.upto (s : _root_.Go.ChangeSpec) : _root_.Go.OpenSpec := { _root_.Go.OpenSpec.ofChange s with cond := some uptoSmall }

/-- 'interleavelaw10.ObjectSum', WHERE WHAT IT READS IS OF BULK AT MOST 1048576: true; the input reads as it did. -/
def objectSumUptoRow : OpenClaim := { program := "ytkfpacklpelefaa", sum := "d762fb297ee15f81b4ee80e3d13f53ce92d38a4e0f3b847504fb9a40098190c6", func := "interleave/interleavelaw10.ObjectSum", spec := "objectSum", unfollowed := true, recurses := true, apart := false, narrowed := true }
def ObjectSumUptoSaid : Prop := objectSumUptoRow.holds Try.pinned (OpenSpec.upto objectSumSpec)

/-- 'interleavelaw10.ObjectEncode', WHERE WHAT IT READS IS OF BULK AT MOST 1048576: true; the input reads as it did. -/
def objectEncodeUptoRow : OpenClaim := { program := "ytkfpacklpelefaa", sum := "d762fb297ee15f81b4ee80e3d13f53ce92d38a4e0f3b847504fb9a40098190c6", func := "interleave/interleavelaw10.ObjectEncode", spec := "objectEncode", unfollowed := true, recurses := true, apart := false, narrowed := true }
def ObjectEncodeUptoSaid : Prop := objectEncodeUptoRow.holds Try.pinned (OpenSpec.upto objectEncodeSpec)

/-- 'interleavelaw10.ObjectDecode', WHERE WHAT IT READS IS OF BULK AT MOST 1048576: true; the input reads as it did. -/
def objectDecodeUptoRow : OpenClaim := { program := "ytkfpacklpelefaa", sum := "d762fb297ee15f81b4ee80e3d13f53ce92d38a4e0f3b847504fb9a40098190c6", func := "interleave/interleavelaw10.ObjectDecode", spec := "objectDecode", unfollowed := true, recurses := true, apart := false, narrowed := true }
def ObjectDecodeUptoSaid : Prop := objectDecodeUptoRow.holds Try.pinned (OpenSpec.upto objectDecodeSpec)

/-- 'interleavelaw10.ObjectSealed', WHERE WHAT IT READS IS OF BULK AT MOST 1048576: true; the input reads as it did. -/
def objectSealedUptoRow : OpenClaim := { program := "ytkfpacklpelefaa", sum := "d762fb297ee15f81b4ee80e3d13f53ce92d38a4e0f3b847504fb9a40098190c6", func := "interleave/interleavelaw10.ObjectSealed", spec := "objectSealed", unfollowed := true, recurses := true, apart := false, narrowed := true }
def ObjectSealedUptoSaid : Prop := objectSealedUptoRow.holds Try.pinned (OpenSpec.upto objectSealedSpec)

/-- 'interleavelaw10.ObjectInvalid', WHERE WHAT IT READS IS OF BULK AT MOST 1048576: true; the input reads as it did. -/
def objectInvalidUptoRow : OpenClaim := { program := "ytkfpacklpelefaa", sum := "d762fb297ee15f81b4ee80e3d13f53ce92d38a4e0f3b847504fb9a40098190c6", func := "interleave/interleavelaw10.ObjectInvalid", spec := "objectInvalid", unfollowed := true, recurses := true, apart := false, narrowed := true }
def ObjectInvalidUptoSaid : Prop := objectInvalidUptoRow.holds Try.pinned (OpenSpec.upto objectInvalidSpec)

/-- 'interleavelaw10.ObjectTrips', WHERE WHAT IT READS IS OF BULK AT MOST 1048576: true; the input reads as it did. -/
def objectTripsUptoRow : OpenClaim := { program := "ytkfpacklpelefaa", sum := "d762fb297ee15f81b4ee80e3d13f53ce92d38a4e0f3b847504fb9a40098190c6", func := "interleave/interleavelaw10.ObjectTrips", spec := "objectTrips", unfollowed := true, recurses := true, apart := false, narrowed := true }
def ObjectTripsUptoSaid : Prop := objectTripsUptoRow.holds Try.pinned (OpenSpec.upto objectTripsSpec)

/-- 'interleavelaw10.ObjectOnto', WHERE WHAT IT READS IS OF BULK AT MOST 1048576: true; the input reads as it did. -/
def objectOntoUptoRow : OpenClaim := { program := "ytkfpacklpelefaa", sum := "d762fb297ee15f81b4ee80e3d13f53ce92d38a4e0f3b847504fb9a40098190c6", func := "interleave/interleavelaw10.ObjectOnto", spec := "objectOnto", unfollowed := true, recurses := true, apart := false, narrowed := true }
def ObjectOntoUptoSaid : Prop := objectOntoUptoRow.holds Try.pinned (OpenSpec.upto objectOntoSpec)

/-- 'interleavelaw10.ObjectSpoilt', WHERE WHAT IT READS IS OF BULK AT MOST 1048576: true; the input reads as it did. -/
def objectSpoiltUptoRow : OpenClaim := { program := "ytkfpacklpelefaa", sum := "d762fb297ee15f81b4ee80e3d13f53ce92d38a4e0f3b847504fb9a40098190c6", func := "interleave/interleavelaw10.ObjectSpoilt", spec := "objectSpoilt", unfollowed := true, recurses := true, apart := false, narrowed := true }
def ObjectSpoiltUptoSaid : Prop := objectSpoiltUptoRow.holds Try.pinned (OpenSpec.upto objectSpoiltSpec)

end Rows
end Go.Proofs.Ytkfpacklpelefaa
