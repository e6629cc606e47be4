/-
  The reference's Visible.
-/
import Derived.Test.YtlgedpiabooloaaZCOpnd
namespace Go.Proofs.Ytlgedpiabooloaa
set_option linter.unusedVariables false
set_option linter.unusedSimpArgs false
open Go.RowKit

def visB (op : Int) : Bool := (decide (31 ≤ op) && decide (op ≤ 50)) || (op == 52)
def accB (op : Int) : Bool := (op == 33) || (op == 34)

set_option maxHeartbeats 1000000 in
theorem rvisible_calls (op : Int) (w : World) : Calls Try.prog 23 #[.int .i64 op] w fun e w' => e = .returned (.bool (visB op)) ∧ w' = w := by
  go_enter Try.func23, Try.ntmps23
  go_wp2
  all_goals
    go_ret
    refine ⟨ret_bool ?_, rfl⟩
    try simp only [beq_iff_eq, beq_eq_false_iff_ne] at *
    rw [Bool.eq_iff_iff]
    simp [visB] <;> omega

end Go.Proofs.Ytlgedpiabooloaa
