/-
  The reference's Visible.
-/
import Derived.Test.YtihcngjkflaelaaGreatDoorZCOpnd
namespace Go.Proofs.YtihcngjkflaelaaGreatDoor
set_option linter.unusedVariables false
set_option linter.unusedSimpArgs false
open Go.RowKit

def visB (op : Int) : Bool := (decide (31 ≤ op) && decide (op ≤ 50)) || (op == 52)
def accB (op : Int) : Bool := (op == 33) || (op == 34)

end Go.Proofs.YtihcngjkflaelaaGreatDoor

/-
  Visible and Access, both forms.
-/
namespace Go.Proofs.YtihcngjkflaelaaGreatDoor
set_option linter.unusedVariables false
set_option linter.unusedSimpArgs false
open Go.RowKit

set_option maxHeartbeats 1000000 in
theorem visible_calls (op : Int) (w : World) : Calls Tryz.prog 16 #[.int .i64 op] w fun e w' => e = .returned (.bool (visB op)) ∧ w' = w := by
  go_enter Tryz.func16, Tryz.ntmps16
  go_wp2
  all_goals
    go_ret
    refine ⟨ret_bool ?_, rfl⟩
    try simp only [beq_iff_eq, beq_eq_false_iff_ne] at *
    rw [Bool.eq_iff_iff]
    simp [visB] <;> omega
end Go.Proofs.YtihcngjkflaelaaGreatDoor
