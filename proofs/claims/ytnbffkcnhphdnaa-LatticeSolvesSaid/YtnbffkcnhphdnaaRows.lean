/-
  No cell of these rows narrows 'for every input' (looked for: loops, veiled, ifaces, maps, wideKeys, modest, calm, conditions, laid).
  DERIVED. THE GIVEN ROWS OF THIS SEAT. 8 by the template 'for every input the law returns true; each argument reads behind the call as it read before'; 0 by the template 'total and deterministic' (their statements: YtnbffkcnhphdnaaTotals.lean).
  GIVEN WITH THE SEED: the statements are not yours to turn. If you find one false, say at which input.
  Laid BY PROGRAM, IN A SANDBOX (cutbox-rows.mjs): the forced cells as the released guide's own fill.sh prints them over the translation bcc834d534b5a146… (all of the seat's roots in one cut). By AI agents, Wed Nov 11 2026. No macro, syntax, notation, axiom, sorry.
-/
import Derived.Test.YtnbffkcnhphdnaaChecked
import GoSem.Claim
import GoSem.ClaimJoined
import GoSem.ClaimMapViews
import Derived.JoinedTies
import Derived.KernelRfl
namespace Go.Proofs.Ytnbffkcnhphdnaa
/- THE CELL 'sum', in the pinned program and in every row, IS THE sha256 OF THE DUMP (.gsa) THAT YtnbffkcnhphdnaaProg.lean LOADS. Nothing in Lean hashes anything: it is a label: what it is worth is what the hold of that sum in a sandbox is worth. -/
noncomputable def Try.pinned : Pinned := { name := "ytnbffkcnhphdnaa", sum := "bcc834d534b5a146f41d0031342bbb411f2eca80e35469cb4ba8016c6ea5f2cd", checked := Try.checked }
namespace Rows
def none {H : Type} : Left H := { results := [], args := [] }

/-- 'interleavelaw42.LatticeMayMatchesReference': WHATEVER THE INPUT: true; the input reads as it did. -/
def latticeMayMatchesReferenceSpec : ChangeSpec := { name := "latticeMayMatchesReference", fn := fun _ => fun
  | [d1, d2] => { results := [.lit (.bool true)], args := [d1, d2] }
  | _ => none }
def latticeMayMatchesReferenceRow : OpenClaim := { program := "ytnbffkcnhphdnaa", sum := "bcc834d534b5a146f41d0031342bbb411f2eca80e35469cb4ba8016c6ea5f2cd", func := "interleave/interleavelaw42.LatticeMayMatchesReference", spec := "latticeMayMatchesReference", unfollowed := true, recurses := true, apart := false }
def LatticeMayMatchesReferenceSaid : Prop := latticeMayMatchesReferenceRow.holds Try.pinned (OpenSpec.ofChange latticeMayMatchesReferenceSpec)

/-- ITS FALSE NEIGHBOUR: 'it returns false'. Refute it at one input. -/
def latticeMayMatchesReferenceWrong : ChangeSpec := { name := "latticeMayMatchesReference", fn := fun _ => fun
  | [d1, d2] => { results := [.lit (.bool false)], args := [d1, d2] }
  | _ => none }
def LatticeMayMatchesReferenceWrongFalsely : Prop := latticeMayMatchesReferenceRow.holds Try.pinned (OpenSpec.ofChange latticeMayMatchesReferenceWrong)

/-- 'interleavelaw42.LatticeMustMatchesReference': WHATEVER THE INPUT: true; the input reads as it did. -/
def latticeMustMatchesReferenceSpec : ChangeSpec := { name := "latticeMustMatchesReference", fn := fun _ => fun
  | [d1, d2] => { results := [.lit (.bool true)], args := [d1, d2] }
  | _ => none }
def latticeMustMatchesReferenceRow : OpenClaim := { program := "ytnbffkcnhphdnaa", sum := "bcc834d534b5a146f41d0031342bbb411f2eca80e35469cb4ba8016c6ea5f2cd", func := "interleave/interleavelaw42.LatticeMustMatchesReference", spec := "latticeMustMatchesReference", unfollowed := true, recurses := true, apart := false }
def LatticeMustMatchesReferenceSaid : Prop := latticeMustMatchesReferenceRow.holds Try.pinned (OpenSpec.ofChange latticeMustMatchesReferenceSpec)

/-- ITS FALSE NEIGHBOUR: 'it returns false'. Refute it at one input. -/
def latticeMustMatchesReferenceWrong : ChangeSpec := { name := "latticeMustMatchesReference", fn := fun _ => fun
  | [d1, d2] => { results := [.lit (.bool false)], args := [d1, d2] }
  | _ => none }
def LatticeMustMatchesReferenceWrongFalsely : Prop := latticeMustMatchesReferenceRow.holds Try.pinned (OpenSpec.ofChange latticeMustMatchesReferenceWrong)

/-- 'interleavelaw42.LatticeLeast': WHATEVER THE INPUT: true; the input reads as it did. -/
def latticeLeastSpec : ChangeSpec := { name := "latticeLeast", fn := fun _ => fun
  | [d1, d2] => { results := [.lit (.bool true)], args := [d1, d2] }
  | _ => none }
def latticeLeastRow : OpenClaim := { program := "ytnbffkcnhphdnaa", sum := "bcc834d534b5a146f41d0031342bbb411f2eca80e35469cb4ba8016c6ea5f2cd", func := "interleave/interleavelaw42.LatticeLeast", spec := "latticeLeast", unfollowed := true, recurses := true, apart := false }
def LatticeLeastSaid : Prop := latticeLeastRow.holds Try.pinned (OpenSpec.ofChange latticeLeastSpec)

/-- ITS FALSE NEIGHBOUR: 'it returns false'. Refute it at one input. -/
def latticeLeastWrong : ChangeSpec := { name := "latticeLeast", fn := fun _ => fun
  | [d1, d2] => { results := [.lit (.bool false)], args := [d1, d2] }
  | _ => none }
def LatticeLeastWrongFalsely : Prop := latticeLeastRow.holds Try.pinned (OpenSpec.ofChange latticeLeastWrong)

/-- 'interleavelaw42.LatticeGreatest': WHATEVER THE INPUT: true; the input reads as it did. -/
def latticeGreatestSpec : ChangeSpec := { name := "latticeGreatest", fn := fun _ => fun
  | [d1, d2, d3] => { results := [.lit (.bool true)], args := [d1, d2, d3] }
  | _ => none }
def latticeGreatestRow : OpenClaim := { program := "ytnbffkcnhphdnaa", sum := "bcc834d534b5a146f41d0031342bbb411f2eca80e35469cb4ba8016c6ea5f2cd", func := "interleave/interleavelaw42.LatticeGreatest", spec := "latticeGreatest", unfollowed := true, recurses := true, apart := false }
def LatticeGreatestSaid : Prop := latticeGreatestRow.holds Try.pinned (OpenSpec.ofChange latticeGreatestSpec)

/-- ITS FALSE NEIGHBOUR: 'it returns false'. Refute it at one input. -/
def latticeGreatestWrong : ChangeSpec := { name := "latticeGreatest", fn := fun _ => fun
  | [d1, d2, d3] => { results := [.lit (.bool false)], args := [d1, d2, d3] }
  | _ => none }
def LatticeGreatestWrongFalsely : Prop := latticeGreatestRow.holds Try.pinned (OpenSpec.ofChange latticeGreatestWrong)

/-- 'interleavelaw42.LatticeMonotone': WHATEVER THE INPUT: true; the input reads as it did. -/
def latticeMonotoneSpec : ChangeSpec := { name := "latticeMonotone", fn := fun _ => fun
  | [d1, d2, d3] => { results := [.lit (.bool true)], args := [d1, d2, d3] }
  | _ => none }
def latticeMonotoneRow : OpenClaim := { program := "ytnbffkcnhphdnaa", sum := "bcc834d534b5a146f41d0031342bbb411f2eca80e35469cb4ba8016c6ea5f2cd", func := "interleave/interleavelaw42.LatticeMonotone", spec := "latticeMonotone", unfollowed := true, recurses := true, apart := false }
def LatticeMonotoneSaid : Prop := latticeMonotoneRow.holds Try.pinned (OpenSpec.ofChange latticeMonotoneSpec)

/-- ITS FALSE NEIGHBOUR: 'it returns false'. Refute it at one input. -/
def latticeMonotoneWrong : ChangeSpec := { name := "latticeMonotone", fn := fun _ => fun
  | [d1, d2, d3] => { results := [.lit (.bool false)], args := [d1, d2, d3] }
  | _ => none }
def LatticeMonotoneWrongFalsely : Prop := latticeMonotoneRow.holds Try.pinned (OpenSpec.ofChange latticeMonotoneWrong)

/-- 'interleavelaw42.LatticeSetsMatchReference': WHATEVER THE INPUT: true; the input reads as it did. -/
def latticeSetsMatchReferenceSpec : ChangeSpec := { name := "latticeSetsMatchReference", fn := fun _ => fun
  | [d1, d2] => { results := [.lit (.bool true)], args := [d1, d2] }
  | _ => none }
def latticeSetsMatchReferenceRow : OpenClaim := { program := "ytnbffkcnhphdnaa", sum := "bcc834d534b5a146f41d0031342bbb411f2eca80e35469cb4ba8016c6ea5f2cd", func := "interleave/interleavelaw42.LatticeSetsMatchReference", spec := "latticeSetsMatchReference", unfollowed := true, recurses := true, apart := false }
def LatticeSetsMatchReferenceSaid : Prop := latticeSetsMatchReferenceRow.holds Try.pinned (OpenSpec.ofChange latticeSetsMatchReferenceSpec)

/-- ITS FALSE NEIGHBOUR: 'it returns false'. Refute it at one input. -/
def latticeSetsMatchReferenceWrong : ChangeSpec := { name := "latticeSetsMatchReference", fn := fun _ => fun
  | [d1, d2] => { results := [.lit (.bool false)], args := [d1, d2] }
  | _ => none }
def LatticeSetsMatchReferenceWrongFalsely : Prop := latticeSetsMatchReferenceRow.holds Try.pinned (OpenSpec.ofChange latticeSetsMatchReferenceWrong)

/-- 'interleavelaw42.LatticeAlgebra': WHATEVER THE INPUT: true; the input reads as it did. -/
def latticeAlgebraSpec : ChangeSpec := { name := "latticeAlgebra", fn := fun _ => fun
  | [d1, d2, d3] => { results := [.lit (.bool true)], args := [d1, d2, d3] }
  | _ => none }
def latticeAlgebraRow : OpenClaim := { program := "ytnbffkcnhphdnaa", sum := "bcc834d534b5a146f41d0031342bbb411f2eca80e35469cb4ba8016c6ea5f2cd", func := "interleave/interleavelaw42.LatticeAlgebra", spec := "latticeAlgebra", unfollowed := true, recurses := true, apart := false }
def LatticeAlgebraSaid : Prop := latticeAlgebraRow.holds Try.pinned (OpenSpec.ofChange latticeAlgebraSpec)

/-- ITS FALSE NEIGHBOUR: 'it returns false'. Refute it at one input. -/
def latticeAlgebraWrong : ChangeSpec := { name := "latticeAlgebra", fn := fun _ => fun
  | [d1, d2, d3] => { results := [.lit (.bool false)], args := [d1, d2, d3] }
  | _ => none }
def LatticeAlgebraWrongFalsely : Prop := latticeAlgebraRow.holds Try.pinned (OpenSpec.ofChange latticeAlgebraWrong)

/-- 'interleavelaw42.LatticeSolves': WHATEVER THE INPUT: true; the input reads as it did. -/
def latticeSolvesSpec : ChangeSpec := { name := "latticeSolves", fn := fun _ => fun
  | [d1, d2] => { results := [.lit (.bool true)], args := [d1, d2] }
  | _ => none }
def latticeSolvesRow : OpenClaim := { program := "ytnbffkcnhphdnaa", sum := "bcc834d534b5a146f41d0031342bbb411f2eca80e35469cb4ba8016c6ea5f2cd", func := "interleave/interleavelaw42.LatticeSolves", spec := "latticeSolves", unfollowed := true, recurses := true, apart := false }
def LatticeSolvesSaid : Prop := latticeSolvesRow.holds Try.pinned (OpenSpec.ofChange latticeSolvesSpec)

/-- ITS FALSE NEIGHBOUR: 'it returns false'. Refute it at one input. -/
def latticeSolvesWrong : ChangeSpec := { name := "latticeSolves", fn := fun _ => fun
  | [d1, d2] => { results := [.lit (.bool false)], args := [d1, d2] }
  | _ => none }
def LatticeSolvesWrongFalsely : Prop := latticeSolvesRow.holds Try.pinned (OpenSpec.ofChange latticeSolvesWrong)

/- THE SECOND FORM. 'bulk': how many values and letters a reading holds, each counted each time it is reached (what is shared counts as often as it is met; a slice's spare places count too). A statement '..UptoSaid' is the law's where the arguments, and the package variables that the reading takes, are together of bulk at most 1048576: NARROWER than '..Said'. Prove '..Said' where nothing that the law and all that it calls make is longer than what came in: it says more and counts as full. Else prove '..UptoSaid'. A law counts once. -/
mutual
def uptoBulk {H : Type} : DataW H → Nat
  | .lit (.string bytes) => bytes.length + 1
  | .lit _ => 1
  | .nil => 1
  | .ptr d => uptoBulk d + 1
  | .slice elems spare => uptoBulkAll elems + uptoBulkAll spare + 1
  | .agg parts => uptoBulkAll parts + 1
  | .iface _ d => uptoBulk d + 1
  | .map entries => uptoBulkEntries entries + 1
  | .held _ => 1
def uptoBulkAll {H : Type} : List (DataW H) → Nat
  | [] => 0
  | d :: r => uptoBulk d + uptoBulkAll r
def uptoBulkEntries {H : Type} : List (Lit × DataW H) → Nat
  | [] => 0
  | x :: r => uptoBulkEntry x + uptoBulkEntries r
def uptoBulkEntry {H : Type} : Lit × DataW H → Nat
  | (.string bytes, d) => bytes.length + uptoBulk d + 1
  | (_, d) => uptoBulk d + 1
 end
def uptoSmall : (H : Type) → List (DataW H) → Bool := fun _ ds => decide (uptoBulkAll ds ≤ 1048576)
def OpenSpec.upto (s : _root_.Go.ChangeSpec) : _root_.Go.OpenSpec := { _root_.Go.OpenSpec.ofChange s with cond := some uptoSmall }

/-- 'interleavelaw42.LatticeMayMatchesReference', WHERE WHAT IT READS IS OF BULK AT MOST 1048576: true; the input reads as it did. -/
def latticeMayMatchesReferenceUptoRow : OpenClaim := { program := "ytnbffkcnhphdnaa", sum := "bcc834d534b5a146f41d0031342bbb411f2eca80e35469cb4ba8016c6ea5f2cd", func := "interleave/interleavelaw42.LatticeMayMatchesReference", spec := "latticeMayMatchesReference", unfollowed := true, recurses := true, apart := false, narrowed := true }
def LatticeMayMatchesReferenceUptoSaid : Prop := latticeMayMatchesReferenceUptoRow.holds Try.pinned (OpenSpec.upto latticeMayMatchesReferenceSpec)

/-- 'interleavelaw42.LatticeMustMatchesReference', WHERE WHAT IT READS IS OF BULK AT MOST 1048576: true; the input reads as it did. -/
def latticeMustMatchesReferenceUptoRow : OpenClaim := { program := "ytnbffkcnhphdnaa", sum := "bcc834d534b5a146f41d0031342bbb411f2eca80e35469cb4ba8016c6ea5f2cd", func := "interleave/interleavelaw42.LatticeMustMatchesReference", spec := "latticeMustMatchesReference", unfollowed := true, recurses := true, apart := false, narrowed := true }
def LatticeMustMatchesReferenceUptoSaid : Prop := latticeMustMatchesReferenceUptoRow.holds Try.pinned (OpenSpec.upto latticeMustMatchesReferenceSpec)

/-- 'interleavelaw42.LatticeLeast', WHERE WHAT IT READS IS OF BULK AT MOST 1048576: true; the input reads as it did. -/
def latticeLeastUptoRow : OpenClaim := { program := "ytnbffkcnhphdnaa", sum := "bcc834d534b5a146f41d0031342bbb411f2eca80e35469cb4ba8016c6ea5f2cd", func := "interleave/interleavelaw42.LatticeLeast", spec := "latticeLeast", unfollowed := true, recurses := true, apart := false, narrowed := true }
def LatticeLeastUptoSaid : Prop := latticeLeastUptoRow.holds Try.pinned (OpenSpec.upto latticeLeastSpec)

/-- 'interleavelaw42.LatticeGreatest', WHERE WHAT IT READS IS OF BULK AT MOST 1048576: true; the input reads as it did. -/
def latticeGreatestUptoRow : OpenClaim := { program := "ytnbffkcnhphdnaa", sum := "bcc834d534b5a146f41d0031342bbb411f2eca80e35469cb4ba8016c6ea5f2cd", func := "interleave/interleavelaw42.LatticeGreatest", spec := "latticeGreatest", unfollowed := true, recurses := true, apart := false, narrowed := true }
def LatticeGreatestUptoSaid : Prop := latticeGreatestUptoRow.holds Try.pinned (OpenSpec.upto latticeGreatestSpec)

/-- 'interleavelaw42.LatticeMonotone', WHERE WHAT IT READS IS OF BULK AT MOST 1048576: true; the input reads as it did. -/
def latticeMonotoneUptoRow : OpenClaim := { program := "ytnbffkcnhphdnaa", sum := "bcc834d534b5a146f41d0031342bbb411f2eca80e35469cb4ba8016c6ea5f2cd", func := "interleave/interleavelaw42.LatticeMonotone", spec := "latticeMonotone", unfollowed := true, recurses := true, apart := false, narrowed := true }
def LatticeMonotoneUptoSaid : Prop := latticeMonotoneUptoRow.holds Try.pinned (OpenSpec.upto latticeMonotoneSpec)

/-- 'interleavelaw42.LatticeSetsMatchReference', WHERE WHAT IT READS IS OF BULK AT MOST 1048576: true; the input reads as it did. -/
def latticeSetsMatchReferenceUptoRow : OpenClaim := { program := "ytnbffkcnhphdnaa", sum := "bcc834d534b5a146f41d0031342bbb411f2eca80e35469cb4ba8016c6ea5f2cd", func := "interleave/interleavelaw42.LatticeSetsMatchReference", spec := "latticeSetsMatchReference", unfollowed := true, recurses := true, apart := false, narrowed := true }
def LatticeSetsMatchReferenceUptoSaid : Prop := latticeSetsMatchReferenceUptoRow.holds Try.pinned (OpenSpec.upto latticeSetsMatchReferenceSpec)

/-- 'interleavelaw42.LatticeAlgebra', WHERE WHAT IT READS IS OF BULK AT MOST 1048576: true; the input reads as it did. -/
def latticeAlgebraUptoRow : OpenClaim := { program := "ytnbffkcnhphdnaa", sum := "bcc834d534b5a146f41d0031342bbb411f2eca80e35469cb4ba8016c6ea5f2cd", func := "interleave/interleavelaw42.LatticeAlgebra", spec := "latticeAlgebra", unfollowed := true, recurses := true, apart := false, narrowed := true }
def LatticeAlgebraUptoSaid : Prop := latticeAlgebraUptoRow.holds Try.pinned (OpenSpec.upto latticeAlgebraSpec)

/-- 'interleavelaw42.LatticeSolves', WHERE WHAT IT READS IS OF BULK AT MOST 1048576: true; the input reads as it did. -/
def latticeSolvesUptoRow : OpenClaim := { program := "ytnbffkcnhphdnaa", sum := "bcc834d534b5a146f41d0031342bbb411f2eca80e35469cb4ba8016c6ea5f2cd", func := "interleave/interleavelaw42.LatticeSolves", spec := "latticeSolves", unfollowed := true, recurses := true, apart := false, narrowed := true }
def LatticeSolvesUptoSaid : Prop := latticeSolvesUptoRow.holds Try.pinned (OpenSpec.upto latticeSolvesSpec)

end Rows
end Go.Proofs.Ytnbffkcnhphdnaa
