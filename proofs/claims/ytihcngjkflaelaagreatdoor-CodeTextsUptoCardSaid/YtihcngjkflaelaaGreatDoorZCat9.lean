/-
  Two texts joined, as a step of a chain.
-/
import Derived.Laws.Concat
import Derived.Test.YtihcngjkflaelaaGreatDoorZChain
namespace Go.Proofs.YtihcngjkflaelaaGreatDoor
set_option linter.unusedVariables false
set_option linter.unusedSimpArgs false
open Go.RowKit

namespace Plan
set_option linter.unusedVariables false
set_option linter.unusedSimpArgs false
variable {R : Plan} {P : Program} {Q : Exit → Act → World → Prop} {i : Nat} {o : Oper} {l : List Oper} {a : Act} {w : World} {G : World → Prop}
/-- Two texts joined. -/
theorem chain_cat {A B : ByteArray} {x y : Operand} {t u : TypeId} (hk : R.kinds i = .det) (hw : Region.wanted o (yielded R.ops a.tmps) = true) (ho : o.op = .binOp .add t x y u) (hx : a.eval x = .string A) (hy : a.eval y = .string B) (hs : A.size + B.size ≤ 9223372036854775807)
    (h : R.RunsG P Q G (i + 1) l (a.put o.dst (.string (A ++ B))) w) : R.RunsG P Q G i (o :: l) a w :=
  chain_det hk hw (fun w' _ => by
    have hr := run_string_add_sum (P := P) w' A B hs
    simp [execOp, ho, hx, hy, hr, eqGuard, binOp_string_add, Result.andThen]) h
end Plan

end Go.Proofs.YtihcngjkflaelaaGreatDoor
