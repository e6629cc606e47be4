/-
  Visible and Access, both forms.
-/
import Derived.Test.YtnifdjacgbdglaaCOpnd
namespace Go.Proofs.Ytnifdjacgbdglaa
set_option linter.unusedVariables false
set_option linter.unusedSimpArgs false
open Go.RowKit

def visB (op : Int) : Bool := (decide (31 ≤ op) && decide (op ≤ 50)) || (op == 52)
def accB (op : Int) : Bool := (op == 33) || (op == 34)

set_option maxHeartbeats 1000000 in
theorem visible_calls (op : Int) (w : World) : Calls Try.prog 24 #[.int .i64 op] w fun e w' => e = .returned (.bool (visB op)) ∧ w' = w := by
  go_enter Try.func24, Try.ntmps24
  go_wp2
  all_goals
    go_ret
    refine ⟨ret_bool ?_, rfl⟩
    try simp only [beq_iff_eq, beq_eq_false_iff_ne] at *
    rw [Bool.eq_iff_iff]
    simp [visB] <;> omega
set_option maxHeartbeats 1000000 in
theorem rvisible_calls (op : Int) (w : World) : Calls Try.prog 25 #[.int .i64 op] w fun e w' => e = .returned (.bool (visB op)) ∧ w' = w := by
  go_enter Try.func25, Try.ntmps25
  go_wp2
  all_goals
    go_ret
    refine ⟨ret_bool ?_, rfl⟩
    try simp only [beq_iff_eq, beq_eq_false_iff_ne] at *
    rw [Bool.eq_iff_iff]
    simp [visB] <;> omega
set_option maxHeartbeats 1000000 in
theorem access_calls (op : Int) (w : World) : Calls Try.prog 26 #[.int .i64 op] w fun e w' => e = .returned (.bool (accB op)) ∧ w' = w := by
  go_enter Try.func26, Try.ntmps26
  go_wp2
  all_goals
    go_ret
    refine ⟨ret_bool ?_, rfl⟩
    try simp only [beq_iff_eq, beq_eq_false_iff_ne] at *
    rw [Bool.eq_iff_iff]
    simp [accB] <;> omega
set_option maxHeartbeats 1000000 in
theorem raccess_calls (op : Int) (w : World) : Calls Try.prog 27 #[.int .i64 op] w fun e w' => e = .returned (.bool (accB op)) ∧ w' = w := by
  go_enter Try.func27, Try.ntmps27
  go_wp2
  all_goals
    go_ret
    refine ⟨ret_bool ?_, rfl⟩
    try simp only [beq_iff_eq, beq_eq_false_iff_ne] at *
    rw [Bool.eq_iff_iff]
    simp [accB] <;> omega

end Go.Proofs.Ytnifdjacgbdglaa
