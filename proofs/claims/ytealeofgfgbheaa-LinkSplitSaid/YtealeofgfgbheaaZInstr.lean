/-
  Parts of the proof.
-/
import Derived.Test.YtealeofgfgbheaaProg
import Derived.Deep.QuietTactic
import Derived.BigQuiet
import Derived.Test.YtealeofgfgbheaaZAppend
import Derived.Test.YtealeofgfgbheaaZRegion
import Derived.Test.YtealeofgfgbheaaZEqC
namespace Go.Proofs.Ytealeofgfgbheaa
set_option linter.unusedVariables false
set_option linter.unusedSimpArgs false
open Go.RowKit

/-- The roles of the operands of an operation, as letters. -/
def roles (op : Int) : ByteArray :=
  if op = 1 then ⟨#[100, 105, 45]⟩ else
  if op = 2 then ⟨#[100, 45, 45]⟩ else
  if op = 3 ∨ op = 9 ∨ op = 10 ∨ op = 15 ∨ op = 22 ∨ op = 23 ∨ op = 33 ∨ op = 35 then ⟨#[100, 114, 45]⟩ else
  if op = 4 ∨ op = 5 ∨ op = 6 ∨ op = 7 ∨ op = 8 ∨ op = 11 ∨ op = 12 ∨ op = 13 ∨ op = 14 ∨ op = 20 ∨ op = 37 ∨ op = 38 then ⟨#[100, 114, 114]⟩ else
  if op = 16 then ⟨#[45, 45, 106]⟩ else
  if op = 17 ∨ op = 45 then ⟨#[114, 45, 106]⟩ else
  if op = 18 then ⟨#[100, 103, 45]⟩ else
  if op = 19 then ⟨#[100, 114, 110]⟩ else
  if op = 21 then ⟨#[100, 108, 45]⟩ else
  if op = 24 then ⟨#[100, 49, 110]⟩ else
  if op = 25 then ⟨#[100, 110, 45]⟩ else
  if op = 26 then ⟨#[68, 102, 97]⟩ else
  if op = 28 ∨ op = 31 then ⟨#[45, 102, 97]⟩ else
  if op = 30 then ⟨#[82, 45, 45]⟩ else
  if op = 34 ∨ op = 36 ∨ op = 43 ∨ op = 47 then ⟨#[114, 114, 45]⟩ else
  if op = 27 ∨ op = 29 ∨ op = 32 ∨ op = 39 ∨ op = 40 ∨ op = 41 ∨ op = 42 ∨ op = 44 ∨ op = 46 ∨ op = 49 ∨ op = 52 then ⟨#[114, 45, 45]⟩ else
  if op = 48 then ⟨#[68, 114, 68]⟩ else
  if op = 50 then ⟨#[100, 115, 98]⟩ else
  if op = 51 then ⟨#[114, 98, 99]⟩ else
  ⟨#[]⟩

set_option maxHeartbeats 4000000 in
theorem roles_calls (op : Int) (w : World) :
    Calls Try.prog 66 #[.int .i64 op] w fun e w' => e = .returned (.string (roles op)) ∧ w = w' := by
  go_enter Try.func66, Try.ntmps66
  go_wp2
  all_goals
    go_ret
    refine ⟨?_, rfl⟩
    first
      | (have h := ‹(op == _) = true›; rw [beq_iff_eq] at h; subst h; rfl)
      | (simp only [beq_eq_false_iff_ne] at *; simp only [roles, *, or_self, if_false]; rfl)

end Go.Proofs.Ytealeofgfgbheaa

namespace Go.Proofs.Ytealeofgfgbheaa
set_option linter.unusedVariables false
set_option linter.unusedSimpArgs false
open Go.RowKit

set_option maxRecDepth 100000 in
set_option maxHeartbeats 1000000 in
theorem opnd_100 (fa ga la ca : Option Addr) (nf fc ng gc nl lc nc cc : Nat) (main : Int) (nm : ByteArray) (pa re op a b c pos v : Int) (w : World) (hnf : nf ≤ 140737488355328) (hng : ng ≤ 140737488355328) (hnl : nl ≤ 140737488355328) (hnc : nc ≤ 140737488355328)  :
    Calls Try.prog 67 #[.agg #[.slice fa nf fc, .slice ga ng gc, .slice la nl lc, .int .i64 main], .agg #[.string nm, .int .i64 pa, .int .i64 re, .slice ca nc cc], .agg #[.int .i64 op, .int .i64 a, .int .i64 b, .int .i64 c, .int .i64 pos], .int .u8 100, .int .i64 v] w fun e w' => e = .returned (.bool (decide (0 ≤ v) && decide (v < re))) ∧ Below w.heap.size w w' := by
  go_enter Try.func67, Try.ntmps67
  go_wp2
  all_goals
    go_ret
    exact ⟨ret_bool (by simp [*] <;> omega), (((Below.refl _ _).alloc (Nat.le_refl _) _).alloc (by simp) _).alloc (by simp; omega) _⟩

set_option maxRecDepth 100000 in
set_option maxHeartbeats 1000000 in
theorem opnd_114 (fa ga la ca : Option Addr) (nf fc ng gc nl lc nc cc : Nat) (main : Int) (nm : ByteArray) (pa re op a b c pos v : Int) (w : World) (hnf : nf ≤ 140737488355328) (hng : ng ≤ 140737488355328) (hnl : nl ≤ 140737488355328) (hnc : nc ≤ 140737488355328)  :
    Calls Try.prog 67 #[.agg #[.slice fa nf fc, .slice ga ng gc, .slice la nl lc, .int .i64 main], .agg #[.string nm, .int .i64 pa, .int .i64 re, .slice ca nc cc], .agg #[.int .i64 op, .int .i64 a, .int .i64 b, .int .i64 c, .int .i64 pos], .int .u8 114, .int .i64 v] w fun e w' => e = .returned (.bool (decide (0 ≤ v) && decide (v < re))) ∧ Below w.heap.size w w' := by
  go_enter Try.func67, Try.ntmps67
  go_wp2
  all_goals
    go_ret
    exact ⟨ret_bool (by simp [*] <;> omega), (((Below.refl _ _).alloc (Nat.le_refl _) _).alloc (by simp) _).alloc (by simp; omega) _⟩

set_option maxRecDepth 100000 in
set_option maxHeartbeats 1000000 in
theorem opnd_68 (fa ga la ca : Option Addr) (nf fc ng gc nl lc nc cc : Nat) (main : Int) (nm : ByteArray) (pa re op a b c pos v : Int) (w : World) (hnf : nf ≤ 140737488355328) (hng : ng ≤ 140737488355328) (hnl : nl ≤ 140737488355328) (hnc : nc ≤ 140737488355328)  :
    Calls Try.prog 67 #[.agg #[.slice fa nf fc, .slice ga ng gc, .slice la nl lc, .int .i64 main], .agg #[.string nm, .int .i64 pa, .int .i64 re, .slice ca nc cc], .agg #[.int .i64 op, .int .i64 a, .int .i64 b, .int .i64 c, .int .i64 pos], .int .u8 68, .int .i64 v] w fun e w' => e = .returned (.bool (decide (-1 ≤ v) && decide (v < re))) ∧ Below w.heap.size w w' := by
  go_enter Try.func67, Try.ntmps67
  go_wp2
  all_goals
    go_ret
    exact ⟨ret_bool (by simp [*] <;> omega), (((Below.refl _ _).alloc (Nat.le_refl _) _).alloc (by simp) _).alloc (by simp; omega) _⟩

set_option maxRecDepth 100000 in
set_option maxHeartbeats 1000000 in
theorem opnd_82 (fa ga la ca : Option Addr) (nf fc ng gc nl lc nc cc : Nat) (main : Int) (nm : ByteArray) (pa re op a b c pos v : Int) (w : World) (hnf : nf ≤ 140737488355328) (hng : ng ≤ 140737488355328) (hnl : nl ≤ 140737488355328) (hnc : nc ≤ 140737488355328)  :
    Calls Try.prog 67 #[.agg #[.slice fa nf fc, .slice ga ng gc, .slice la nl lc, .int .i64 main], .agg #[.string nm, .int .i64 pa, .int .i64 re, .slice ca nc cc], .agg #[.int .i64 op, .int .i64 a, .int .i64 b, .int .i64 c, .int .i64 pos], .int .u8 82, .int .i64 v] w fun e w' => e = .returned (.bool (decide (-1 ≤ v) && decide (v < re))) ∧ Below w.heap.size w w' := by
  go_enter Try.func67, Try.ntmps67
  go_wp2
  all_goals
    go_ret
    exact ⟨ret_bool (by simp [*] <;> omega), (((Below.refl _ _).alloc (Nat.le_refl _) _).alloc (by simp) _).alloc (by simp; omega) _⟩

set_option maxRecDepth 100000 in
set_option maxHeartbeats 1000000 in
theorem opnd_110 (fa ga la ca : Option Addr) (nf fc ng gc nl lc nc cc : Nat) (main : Int) (nm : ByteArray) (pa re op a b c pos v : Int) (w : World) (hnf : nf ≤ 140737488355328) (hng : ng ≤ 140737488355328) (hnl : nl ≤ 140737488355328) (hnc : nc ≤ 140737488355328)  :
    Calls Try.prog 67 #[.agg #[.slice fa nf fc, .slice ga ng gc, .slice la nl lc, .int .i64 main], .agg #[.string nm, .int .i64 pa, .int .i64 re, .slice ca nc cc], .agg #[.int .i64 op, .int .i64 a, .int .i64 b, .int .i64 c, .int .i64 pos], .int .u8 110, .int .i64 v] w fun e w' => e = .returned (.bool (decide (0 ≤ v) && decide (v ≤ 64))) ∧ Below w.heap.size w w' := by
  go_enter Try.func67, Try.ntmps67
  go_wp2
  all_goals
    go_ret
    exact ⟨ret_bool (by simp [*] <;> omega), (((Below.refl _ _).alloc (Nat.le_refl _) _).alloc (by simp) _).alloc (by simp; omega) _⟩

set_option maxRecDepth 100000 in
set_option maxHeartbeats 1000000 in
theorem opnd_103 (fa ga la ca : Option Addr) (nf fc ng gc nl lc nc cc : Nat) (main : Int) (nm : ByteArray) (pa re op a b c pos v : Int) (w : World) (hnf : nf ≤ 140737488355328) (hng : ng ≤ 140737488355328) (hnl : nl ≤ 140737488355328) (hnc : nc ≤ 140737488355328)  :
    Calls Try.prog 67 #[.agg #[.slice fa nf fc, .slice ga ng gc, .slice la nl lc, .int .i64 main], .agg #[.string nm, .int .i64 pa, .int .i64 re, .slice ca nc cc], .agg #[.int .i64 op, .int .i64 a, .int .i64 b, .int .i64 c, .int .i64 pos], .int .u8 103, .int .i64 v] w fun e w' => e = .returned (.bool (decide (0 ≤ v) && decide (v < (ng : Int)))) ∧ Below w.heap.size w w' := by
  go_enter Try.func67, Try.ntmps67
  go_wp2
  all_goals
    go_ret
    exact ⟨ret_bool (by simp [*] <;> omega), (((Below.refl _ _).alloc (Nat.le_refl _) _).alloc (by simp) _).alloc (by simp; omega) _⟩

set_option maxRecDepth 100000 in
set_option maxHeartbeats 1000000 in
theorem opnd_108 (fa ga la ca : Option Addr) (nf fc ng gc nl lc nc cc : Nat) (main : Int) (nm : ByteArray) (pa re op a b c pos v : Int) (w : World) (hnf : nf ≤ 140737488355328) (hng : ng ≤ 140737488355328) (hnl : nl ≤ 140737488355328) (hnc : nc ≤ 140737488355328)  :
    Calls Try.prog 67 #[.agg #[.slice fa nf fc, .slice ga ng gc, .slice la nl lc, .int .i64 main], .agg #[.string nm, .int .i64 pa, .int .i64 re, .slice ca nc cc], .agg #[.int .i64 op, .int .i64 a, .int .i64 b, .int .i64 c, .int .i64 pos], .int .u8 108, .int .i64 v] w fun e w' => e = .returned (.bool (decide (0 ≤ v) && decide (v < (nl : Int)))) ∧ Below w.heap.size w w' := by
  go_enter Try.func67, Try.ntmps67
  go_wp2
  all_goals
    go_ret
    exact ⟨ret_bool (by simp [*] <;> omega), (((Below.refl _ _).alloc (Nat.le_refl _) _).alloc (by simp) _).alloc (by simp; omega) _⟩

set_option maxRecDepth 100000 in
set_option maxHeartbeats 1000000 in
theorem opnd_97 (fa ga la ca : Option Addr) (nf fc ng gc nl lc nc cc : Nat) (main : Int) (nm : ByteArray) (pa re op a b c pos v : Int) (w : World) (hnf : nf ≤ 140737488355328) (hng : ng ≤ 140737488355328) (hnl : nl ≤ 140737488355328) (hnc : nc ≤ 140737488355328)  :
    Calls Try.prog 67 #[.agg #[.slice fa nf fc, .slice ga ng gc, .slice la nl lc, .int .i64 main], .agg #[.string nm, .int .i64 pa, .int .i64 re, .slice ca nc cc], .agg #[.int .i64 op, .int .i64 a, .int .i64 b, .int .i64 c, .int .i64 pos], .int .u8 97, .int .i64 v] w fun e w' => e = .returned (.bool (decide (0 ≤ v))) ∧ Below w.heap.size w w' := by
  go_enter Try.func67, Try.ntmps67
  go_wp2
  all_goals
    go_ret
    exact ⟨ret_bool (by simp [*] <;> omega), (((Below.refl _ _).alloc (Nat.le_refl _) _).alloc (by simp) _).alloc (by simp; omega) _⟩

set_option maxRecDepth 100000 in
set_option maxHeartbeats 1000000 in
theorem opnd_115 (fa ga la ca : Option Addr) (nf fc ng gc nl lc nc cc : Nat) (main : Int) (nm : ByteArray) (pa re op a b c pos v : Int) (w : World) (hnf : nf ≤ 140737488355328) (hng : ng ≤ 140737488355328) (hnl : nl ≤ 140737488355328) (hnc : nc ≤ 140737488355328)  :
    Calls Try.prog 67 #[.agg #[.slice fa nf fc, .slice ga ng gc, .slice la nl lc, .int .i64 main], .agg #[.string nm, .int .i64 pa, .int .i64 re, .slice ca nc cc], .agg #[.int .i64 op, .int .i64 a, .int .i64 b, .int .i64 c, .int .i64 pos], .int .u8 115, .int .i64 v] w fun e w' => e = .returned (.bool (decide (0 ≤ v) && decide (v ≤ 8))) ∧ Below w.heap.size w w' := by
  go_enter Try.func67, Try.ntmps67
  go_wp2
  all_goals
    go_ret
    exact ⟨ret_bool (by simp [*] <;> omega), (((Below.refl _ _).alloc (Nat.le_refl _) _).alloc (by simp) _).alloc (by simp; omega) _⟩

set_option maxRecDepth 100000 in
set_option maxHeartbeats 1000000 in
theorem opnd_98 (fa ga la ca : Option Addr) (nf fc ng gc nl lc nc cc : Nat) (main : Int) (nm : ByteArray) (pa re op a b c pos v : Int) (w : World) (hnf : nf ≤ 140737488355328) (hng : ng ≤ 140737488355328) (hnl : nl ≤ 140737488355328) (hnc : nc ≤ 140737488355328)  :
    Calls Try.prog 67 #[.agg #[.slice fa nf fc, .slice ga ng gc, .slice la nl lc, .int .i64 main], .agg #[.string nm, .int .i64 pa, .int .i64 re, .slice ca nc cc], .agg #[.int .i64 op, .int .i64 a, .int .i64 b, .int .i64 c, .int .i64 pos], .int .u8 98, .int .i64 v] w fun e w' => e = .returned (.bool ((v == 0) || (v == 1))) ∧ Below w.heap.size w w' := by
  go_enter Try.func67, Try.ntmps67
  go_wp2
  all_goals
    go_ret
    exact ⟨ret_bool (by simp [*] <;> omega), (((Below.refl _ _).alloc (Nat.le_refl _) _).alloc (by simp) _).alloc (by simp; omega) _⟩

set_option maxRecDepth 100000 in
set_option maxHeartbeats 1000000 in
theorem opnd_99 (fa ga la ca : Option Addr) (nf fc ng gc nl lc nc cc : Nat) (main : Int) (nm : ByteArray) (pa re op a b c pos v : Int) (w : World) (hnf : nf ≤ 140737488355328) (hng : ng ≤ 140737488355328) (hnl : nl ≤ 140737488355328) (hnc : nc ≤ 140737488355328)  :
    Calls Try.prog 67 #[.agg #[.slice fa nf fc, .slice ga ng gc, .slice la nl lc, .int .i64 main], .agg #[.string nm, .int .i64 pa, .int .i64 re, .slice ca nc cc], .agg #[.int .i64 op, .int .i64 a, .int .i64 b, .int .i64 c, .int .i64 pos], .int .u8 99, .int .i64 v] w fun e w' => e = .returned (.bool (decide (-1 ≤ v) && decide (v < re) && ((b == 0) || decide (0 ≤ v)))) ∧ Below w.heap.size w w' := by
  go_enter Try.func67, Try.ntmps67
  go_wp2
  all_goals
    go_ret
    exact ⟨ret_bool (by simp [*] <;> omega), (((Below.refl _ _).alloc (Nat.le_refl _) _).alloc (by simp) _).alloc (by simp; omega) _⟩

set_option maxRecDepth 100000 in
set_option maxHeartbeats 1000000 in
theorem opnd_45 (fa ga la ca : Option Addr) (nf fc ng gc nl lc nc cc : Nat) (main : Int) (nm : ByteArray) (pa re op a b c pos v : Int) (w : World) (hnf : nf ≤ 140737488355328) (hng : ng ≤ 140737488355328) (hnl : nl ≤ 140737488355328) (hnc : nc ≤ 140737488355328)  :
    Calls Try.prog 67 #[.agg #[.slice fa nf fc, .slice ga ng gc, .slice la nl lc, .int .i64 main], .agg #[.string nm, .int .i64 pa, .int .i64 re, .slice ca nc cc], .agg #[.int .i64 op, .int .i64 a, .int .i64 b, .int .i64 c, .int .i64 pos], .int .u8 45, .int .i64 v] w fun e w' => e = .returned (.bool (v == 0)) ∧ Below w.heap.size w w' := by
  go_enter Try.func67, Try.ntmps67
  go_wp2
  all_goals
    go_ret
    exact ⟨ret_bool (by simp [*] <;> omega), (((Below.refl _ _).alloc (Nat.le_refl _) _).alloc (by simp) _).alloc (by simp; omega) _⟩

set_option maxRecDepth 100000 in
set_option maxHeartbeats 1000000 in
theorem opnd_105 (fa ga la ca : Option Addr) (nf fc ng gc nl lc nc cc : Nat) (main : Int) (nm : ByteArray) (pa re op a b c pos v : Int) (w : World) (hnf : nf ≤ 140737488355328) (hng : ng ≤ 140737488355328) (hnl : nl ≤ 140737488355328) (hnc : nc ≤ 140737488355328)  :
    Calls Try.prog 67 #[.agg #[.slice fa nf fc, .slice ga ng gc, .slice la nl lc, .int .i64 main], .agg #[.string nm, .int .i64 pa, .int .i64 re, .slice ca nc cc], .agg #[.int .i64 op, .int .i64 a, .int .i64 b, .int .i64 c, .int .i64 pos], .int .u8 105, .int .i64 v] w fun e w' => e = .returned (.bool (true)) ∧ Below w.heap.size w w' := by
  go_enter Try.func67, Try.ntmps67
  go_wp2
  all_goals
    go_ret
    exact ⟨ret_bool (by simp [*] <;> omega), (((Below.refl _ _).alloc (Nat.le_refl _) _).alloc (by simp) _).alloc (by simp; omega) _⟩

end Go.Proofs.Ytealeofgfgbheaa

namespace Go.Proofs.Ytealeofgfgbheaa
set_option linter.unusedVariables false
set_option linter.unusedSimpArgs false
open Go.RowKit

set_option maxRecDepth 100000 in
set_option maxHeartbeats 1000000 in
theorem opnd_106no1 (fa ga la ca : Option Addr) (nf fc ng gc nl lc nc cc : Nat) (main : Int) (nm : ByteArray) (pa re op a b c pos : Int) (v : Int) (w : World) (hnf : nf ≤ 140737488355328) (hng : ng ≤ 140737488355328) (hnl : nl ≤ 140737488355328) (hnc : nc ≤ 140737488355328) (hv : decide (0 ≤ v) = false) :
    Calls Try.prog 67 #[.agg #[.slice fa nf fc, .slice ga ng gc, .slice la nl lc, .int .i64 main], .agg #[.string nm, .int .i64 pa, .int .i64 re, .slice ca nc cc], .agg #[.int .i64 op, .int .i64 a, .int .i64 b, .int .i64 c, .int .i64 pos], .int .u8 106, .int .i64 v] w fun e w' => e = .returned (.bool (false)) ∧ Below w.heap.size w w' := by
  go_enter Try.func67, Try.ntmps67
  go_wp2
  all_goals
    go_ret
    exact ⟨ret_bool (by first | rfl | (simp [*] <;> omega)), (((Below.refl _ _).alloc (Nat.le_refl _) _).alloc (by simp) _).alloc (by simp; omega) _⟩

set_option maxRecDepth 100000 in
set_option maxHeartbeats 1000000 in
theorem opnd_106no2 (fa ga la ca : Option Addr) (nf fc ng gc nl lc nc cc : Nat) (main : Int) (nm : ByteArray) (pa re op a b c pos : Int) (v : Int) (w : World) (hnf : nf ≤ 140737488355328) (hng : ng ≤ 140737488355328) (hnl : nl ≤ 140737488355328) (hnc : nc ≤ 140737488355328) (hv : decide (0 ≤ v) = true) (hv2 : decide (v < (nc : Int)) = false) :
    Calls Try.prog 67 #[.agg #[.slice fa nf fc, .slice ga ng gc, .slice la nl lc, .int .i64 main], .agg #[.string nm, .int .i64 pa, .int .i64 re, .slice ca nc cc], .agg #[.int .i64 op, .int .i64 a, .int .i64 b, .int .i64 c, .int .i64 pos], .int .u8 106, .int .i64 v] w fun e w' => e = .returned (.bool (false)) ∧ Below w.heap.size w w' := by
  go_enter Try.func67, Try.ntmps67
  go_wp2
  all_goals
    go_ret
    exact ⟨ret_bool (by first | rfl | (simp [*] <;> omega)), (((Below.refl _ _).alloc (Nat.le_refl _) _).alloc (by simp) _).alloc (by simp; omega) _⟩

set_option maxRecDepth 100000 in
set_option maxHeartbeats 1000000 in
theorem opnd_106yes (fa ga la : Option Addr) (nf fc ng gc nl lc nc cc : Nat) (main : Int) (nm : ByteArray) (pa re op a b c pos : Int) (w : World) (hnf : nf ≤ 140737488355328) (hng : ng ≤ 140737488355328) (hnl : nl ≤ 140737488355328) (hnc : nc ≤ 140737488355328) (cb co k : Nat) (x : Int) (hk : k < nc) (hcb : cb < w.heap.size) (hcb1 : cb < w.heap.size + 1) (hcb2 : cb < w.heap.size + 1 + 1) (q0 : w.cell? ⟨cb, co + k * 5, none⟩ = some (.int .i64 x)) :
    Calls Try.prog 67 #[.agg #[.slice fa nf fc, .slice ga ng gc, .slice la nl lc, .int .i64 main], .agg #[.string nm, .int .i64 pa, .int .i64 re, .slice (some ⟨cb, co, none⟩) nc cc], .agg #[.int .i64 op, .int .i64 a, .int .i64 b, .int .i64 c, .int .i64 pos], .int .u8 106, .int .i64 k] w fun e w' => e = .returned (.bool (!(x == 51))) ∧ Below w.heap.size w w' := by
  go_enter Try.func67, Try.ntmps67
  go_wp2
  all_goals
    go_ret
    exact ⟨ret_bool (by first | rfl | (simp [*] <;> omega)), (((Below.refl _ _).alloc (Nat.le_refl _) _).alloc (by simp) _).alloc (by simp; omega) _⟩

set_option maxRecDepth 100000 in
set_option maxHeartbeats 1000000 in
theorem opnd_102a (fa ga la ca : Option Addr) (nf fc ng gc nl lc nc cc : Nat) (main : Int) (nm : ByteArray) (pa re op a b c pos : Int) (v : Int) (w : World) (hnf : nf ≤ 140737488355328) (hng : ng ≤ 140737488355328) (hnl : nl ≤ 140737488355328) (hnc : nc ≤ 140737488355328) (hv : decide (0 ≤ v) = false) :
    Calls Try.prog 67 #[.agg #[.slice fa nf fc, .slice ga ng gc, .slice la nl lc, .int .i64 main], .agg #[.string nm, .int .i64 pa, .int .i64 re, .slice ca nc cc], .agg #[.int .i64 op, .int .i64 a, .int .i64 b, .int .i64 c, .int .i64 pos], .int .u8 102, .int .i64 v] w fun e w' => e = .returned (.bool (false)) ∧ Below w.heap.size w w' := by
  go_enter Try.func67, Try.ntmps67
  go_wp2
  go_quiet (fail)
  go_wp2
  all_goals
    go_ret
    exact ⟨ret_bool (by first | rfl | (simp [*] <;> omega)), below_drewN ((((Below.refl _ _).alloc (Nat.le_refl _) _).alloc (by simp) _).alloc (by simp; omega) _) _⟩

set_option maxRecDepth 100000 in
set_option maxHeartbeats 1000000 in
theorem opnd_102b (fa ga la ca : Option Addr) (nf fc ng gc nl lc nc cc : Nat) (main : Int) (nm : ByteArray) (pa re op a b c pos : Int) (v : Int) (w : World) (hnf : nf ≤ 140737488355328) (hng : ng ≤ 140737488355328) (hnl : nl ≤ 140737488355328) (hnc : nc ≤ 140737488355328) (hv : decide (0 ≤ v) = true) (hv2 : decide (v < (nf : Int)) = false) :
    Calls Try.prog 67 #[.agg #[.slice fa nf fc, .slice ga ng gc, .slice la nl lc, .int .i64 main], .agg #[.string nm, .int .i64 pa, .int .i64 re, .slice ca nc cc], .agg #[.int .i64 op, .int .i64 a, .int .i64 b, .int .i64 c, .int .i64 pos], .int .u8 102, .int .i64 v] w fun e w' => e = .returned (.bool (false)) ∧ Below w.heap.size w w' := by
  go_enter Try.func67, Try.ntmps67
  go_wp2
  go_quiet (fail)
  go_wp2
  all_goals
    go_ret
    exact ⟨ret_bool (by first | rfl | (simp [*] <;> omega)), below_drewN ((((Below.refl _ _).alloc (Nat.le_refl _) _).alloc (by simp) _).alloc (by simp; omega) _) _⟩

set_option maxRecDepth 100000 in
set_option maxHeartbeats 1000000 in
theorem opnd_102c (fa ga la ca : Option Addr) (nf fc ng gc nl lc nc cc : Nat) (main : Int) (nm : ByteArray) (pa re op a b c pos : Int) (v : Int) (w : World) (hnf : nf ≤ 140737488355328) (hng : ng ≤ 140737488355328) (hnl : nl ≤ 140737488355328) (hnc : nc ≤ 140737488355328) (hv : decide (0 ≤ v) = true) (hv2 : decide (v < (nf : Int)) = true) (hv3 : decide (0 ≤ c) = false) :
    Calls Try.prog 67 #[.agg #[.slice fa nf fc, .slice ga ng gc, .slice la nl lc, .int .i64 main], .agg #[.string nm, .int .i64 pa, .int .i64 re, .slice ca nc cc], .agg #[.int .i64 op, .int .i64 a, .int .i64 b, .int .i64 c, .int .i64 pos], .int .u8 102, .int .i64 v] w fun e w' => e = .returned (.bool (false)) ∧ Below w.heap.size w w' := by
  go_enter Try.func67, Try.ntmps67
  go_wp2
  go_quiet (fail)
  go_wp2
  all_goals
    go_ret
    exact ⟨ret_bool (by first | rfl | (simp [*] <;> omega)), below_drewN ((((Below.refl _ _).alloc (Nat.le_refl _) _).alloc (by simp) _).alloc (by simp; omega) _) _⟩

set_option maxRecDepth 100000 in
set_option maxHeartbeats 1000000 in
theorem opnd_102yes (ga la ca : Option Addr) (nf fc ng gc nl lc nc cc : Nat) (main : Int) (nm : ByteArray) (pa re op a b c pos : Int) (w : World) (hnf : nf ≤ 140737488355328) (hng : ng ≤ 140737488355328) (hnl : nl ≤ 140737488355328) (hnc : nc ≤ 140737488355328) (fb fo k : Nat) (x : Int) (hk : k < nf) (hcb : fb < w.heap.size) (hcb1 : fb < w.heap.size + 1) (hcb2 : fb < w.heap.size + 1 + 1) (q0 : w.cell? ⟨fb, fo + k * 4 + 1, none⟩ = some (.int .i64 x)) (hv3 : decide (0 ≤ c) = true) :
    Calls Try.prog 67 #[.agg #[.slice (some ⟨fb, fo, none⟩) nf fc, .slice ga ng gc, .slice la nl lc, .int .i64 main], .agg #[.string nm, .int .i64 pa, .int .i64 re, .slice ca nc cc], .agg #[.int .i64 op, .int .i64 a, .int .i64 b, .int .i64 c, .int .i64 pos], .int .u8 102, .int .i64 k] w fun e w' => e = .returned (.bool (decide (c ≤ wrap64 (re - x)))) ∧ Below w.heap.size w w' := by
  go_enter Try.func67, Try.ntmps67
  go_wp2
  go_quiet (fail)
  go_wp2
  all_goals
    go_ret
    exact ⟨ret_bool (by first | rfl | (simp [*] <;> omega)), below_drewN ((((Below.refl _ _).alloc (Nat.le_refl _) _).alloc (by simp) _).alloc (by simp; omega) _) _⟩

set_option maxRecDepth 100000 in
set_option maxHeartbeats 1000000 in
theorem opnd_49no1 (fa ga la ca : Option Addr) (nf fc ng gc nl lc nc cc : Nat) (main : Int) (nm : ByteArray) (pa re op a b c pos : Int) (v : Int) (w : World) (hnf : nf ≤ 140737488355328) (hng : ng ≤ 140737488355328) (hnl : nl ≤ 140737488355328) (hnc : nc ≤ 140737488355328) (hv : decide (0 ≤ v) = false) :
    Calls Try.prog 67 #[.agg #[.slice fa nf fc, .slice ga ng gc, .slice la nl lc, .int .i64 main], .agg #[.string nm, .int .i64 pa, .int .i64 re, .slice ca nc cc], .agg #[.int .i64 op, .int .i64 a, .int .i64 b, .int .i64 c, .int .i64 pos], .int .u8 49, .int .i64 v] w fun e w' => e = .returned (.bool (false)) ∧ Below w.heap.size w w' := by
  go_enter Try.func67, Try.ntmps67
  go_wp2
  all_goals
    go_ret
    exact ⟨ret_bool (by first | rfl | (simp [*] <;> omega)), (((Below.refl _ _).alloc (Nat.le_refl _) _).alloc (by simp) _).alloc (by simp; omega) _⟩

set_option maxRecDepth 100000 in
set_option maxHeartbeats 1000000 in
theorem opnd_49no2 (fa ga la ca : Option Addr) (nf fc ng gc nl lc nc cc : Nat) (main : Int) (nm : ByteArray) (pa re op a b c pos : Int) (v : Int) (w : World) (hnf : nf ≤ 140737488355328) (hng : ng ≤ 140737488355328) (hnl : nl ≤ 140737488355328) (hnc : nc ≤ 140737488355328) (hv : decide (0 ≤ v) = true) (hv2 : decide (v < (nf : Int)) = false) :
    Calls Try.prog 67 #[.agg #[.slice fa nf fc, .slice ga ng gc, .slice la nl lc, .int .i64 main], .agg #[.string nm, .int .i64 pa, .int .i64 re, .slice ca nc cc], .agg #[.int .i64 op, .int .i64 a, .int .i64 b, .int .i64 c, .int .i64 pos], .int .u8 49, .int .i64 v] w fun e w' => e = .returned (.bool (false)) ∧ Below w.heap.size w w' := by
  go_enter Try.func67, Try.ntmps67
  go_wp2
  all_goals
    go_ret
    exact ⟨ret_bool (by first | rfl | (simp [*] <;> omega)), (((Below.refl _ _).alloc (Nat.le_refl _) _).alloc (by simp) _).alloc (by simp; omega) _⟩

set_option maxRecDepth 100000 in
set_option maxHeartbeats 1000000 in
theorem opnd_49yes (ga la ca : Option Addr) (nf fc ng gc nl lc nc cc : Nat) (main : Int) (nm : ByteArray) (pa re op a b c pos : Int) (w : World) (hnf : nf ≤ 140737488355328) (hng : ng ≤ 140737488355328) (hnl : nl ≤ 140737488355328) (hnc : nc ≤ 140737488355328) (fb fo k : Nat) (x : Int) (hk : k < nf) (hcb : fb < w.heap.size) (hcb1 : fb < w.heap.size + 1) (hcb2 : fb < w.heap.size + 1 + 1) (q0 : w.cell? ⟨fb, fo + k * 4 + 1, none⟩ = some (.int .i64 x)) :
    Calls Try.prog 67 #[.agg #[.slice (some ⟨fb, fo, none⟩) nf fc, .slice ga ng gc, .slice la nl lc, .int .i64 main], .agg #[.string nm, .int .i64 pa, .int .i64 re, .slice ca nc cc], .agg #[.int .i64 op, .int .i64 a, .int .i64 b, .int .i64 c, .int .i64 pos], .int .u8 49, .int .i64 k] w fun e w' => e = .returned (.bool (x == 1)) ∧ Below w.heap.size w w' := by
  go_enter Try.func67, Try.ntmps67
  go_wp2
  all_goals
    go_ret
    exact ⟨ret_bool (by first | rfl | (simp [*] <;> omega)), (((Below.refl _ _).alloc (Nat.le_refl _) _).alloc (by simp) _).alloc (by simp; omega) _⟩

end Go.Proofs.Ytealeofgfgbheaa

namespace Go.Proofs.Ytealeofgfgbheaa
set_option linter.unusedVariables false
set_option linter.unusedSimpArgs false
open Go.RowKit

/-- Whether an operand is valid for its role. -/
def operandB (p : Prg) (f : Fun) (x : Ins) (r : Int) (v : Int) : Bool :=
  if r = 100 ∨ r = 114 then decide (0 ≤ v) && decide (v < f.regs) else
  if r = 68 ∨ r = 82 then decide (-1 ≤ v) && decide (v < f.regs) else
  if r = 110 then decide (0 ≤ v) && decide (v ≤ 64) else
  if r = 106 then decide (0 ≤ v) && (decide (v < (f.code.length : Int)) && !((nth f.code v.toNat).op == 51)) else
  if r = 103 then decide (0 ≤ v) && decide (v < (p.globals.length : Int)) else
  if r = 108 then decide (0 ≤ v) && decide (v < (p.layouts.length : Int)) else
  if r = 102 then decide (0 ≤ v) && (decide (v < (p.funcs.length : Int)) && (decide (0 ≤ x.c) && decide (x.c ≤ wrap64 (f.regs - (nth p.funcs v.toNat).params)))) else
  if r = 49 then decide (0 ≤ v) && (decide (v < (p.funcs.length : Int)) && ((nth p.funcs v.toNat).params == 1)) else
  if r = 97 then decide (0 ≤ v) else
  if r = 115 then decide (0 ≤ v) && decide (v ≤ 8) else
  if r = 98 then (v == 0) || (v == 1) else
  if r = 99 then decide (-1 ≤ v) && decide (v < f.regs) && ((x.b == 0) || decide (0 ≤ v)) else
  if r = 45 then v == 0 else true

def letter (r : Int) : Prop := r = 100 ∨ r = 114 ∨ r = 68 ∨ r = 82 ∨ r = 110 ∨ r = 106 ∨ r = 103 ∨ r = 108 ∨ r = 102 ∨ r = 49 ∨ r = 97 ∨ r = 115 ∨ r = 98 ∨ r = 99 ∨ r = 45 ∨ r = 105

theorem operand_calls (lo1 lo2 : Nat) (vf vg vl vc : Value) (p : Prg) (f : Fun) (x : Ins) (r v : Int) (w : World) (hp : ProgAt lo1 w vf vg vl p) (hc : CodeAt lo2 w vc f.code) (hr : letter r) :
    Calls Try.prog 67 #[.agg #[vf, vg, vl, .int .i64 p.main], .agg #[.string f.name, .int .i64 f.params, .int .i64 f.regs, vc], .agg #[.int .i64 x.op, .int .i64 x.a, .int .i64 x.b, .int .i64 x.c, .int .i64 x.pos], .int .u8 r, .int .i64 v] w
      fun e w' => e = .returned (.bool (operandB p f x r v)) ∧ Below w.heap.size w w' := by
  obtain ⟨fa, fc, fb, fo, S, rfl, fp, _, f1, _, _, _, fbl, _, _, fn⟩ := hp.funcs.open
  obtain ⟨ga, gc, gb, go, rfl, gp, _, _, _, _, _, gn⟩ := hp.globs.open
  obtain ⟨la, lc, lb, lo, T, rfl, lp, _, _, _, _, _, ln⟩ := hp.lays.open
  obtain ⟨ca, cc, cb, co, rfl, cp, c0, _, _, _, _, cbl, _, _, _, cn⟩ := hc.open
  rcases hr with rfl | rfl | rfl | rfl | rfl | rfl | rfl | rfl | rfl | rfl | rfl | rfl | rfl | rfl | rfl | rfl
  · exact opnd_100 fa ga la ca _ fc _ gc _ lc _ cc _ _ _ _ _ _ _ _ _ v w fn gn ln cn
  · exact opnd_114 fa ga la ca _ fc _ gc _ lc _ cc _ _ _ _ _ _ _ _ _ v w fn gn ln cn
  · exact opnd_68 fa ga la ca _ fc _ gc _ lc _ cc _ _ _ _ _ _ _ _ _ v w fn gn ln cn
  · exact opnd_82 fa ga la ca _ fc _ gc _ lc _ cc _ _ _ _ _ _ _ _ _ v w fn gn ln cn
  · exact opnd_110 fa ga la ca _ fc _ gc _ lc _ cc _ _ _ _ _ _ _ _ _ v w fn gn ln cn
  · have e : operandB p f x 106 v = (decide (0 ≤ v) && (decide (v < (f.code.length : Int)) && !((nth f.code v.toNat).op == 51))) := rfl
    rw [e]
    by_cases h0 : 0 ≤ v
    · by_cases h1 : v < f.code.length
      · obtain ⟨k, rfl⟩ := Int.eq_ofNat_of_zero_le h0
        have hk : k < f.code.length := by omega
        have e1 := cp (by omega)
        subst e1
        have := cbl (by omega)
        rw [decide_eq_true h0, decide_eq_true h1, Bool.true_and, Bool.true_and]
        exact opnd_106yes fa ga la _ fc _ gc _ lc _ cc _ _ _ _ _ _ _ _ _ w fn gn ln cn cb co k (nth f.code k).op hk (by omega) (by omega) (by omega) (c0 k hk)
      · rw [decide_eq_true h0, decide_eq_false h1]
        exact opnd_106no2 fa ga la ca _ fc _ gc _ lc _ cc _ _ _ _ _ _ _ _ _ v w fn gn ln cn (decide_eq_true h0) (decide_eq_false h1)
    · rw [decide_eq_false h0]
      exact opnd_106no1 fa ga la ca _ fc _ gc _ lc _ cc _ _ _ _ _ _ _ _ _ v w fn gn ln cn (decide_eq_false h0)
  · exact opnd_103 fa ga la ca _ fc _ gc _ lc _ cc _ _ _ _ _ _ _ _ _ v w fn gn ln cn
  · exact opnd_108 fa ga la ca _ fc _ gc _ lc _ cc _ _ _ _ _ _ _ _ _ v w fn gn ln cn
  · have e : operandB p f x 102 v = (decide (0 ≤ v) && (decide (v < (p.funcs.length : Int)) && (decide (0 ≤ x.c) && decide (x.c ≤ wrap64 (f.regs - (nth p.funcs v.toNat).params))))) := rfl
    rw [e]
    by_cases h0 : 0 ≤ v
    · by_cases h1 : v < p.funcs.length
      · by_cases h2 : 0 ≤ x.c
        · obtain ⟨k, rfl⟩ := Int.eq_ofNat_of_zero_le h0
          have hk : k < p.funcs.length := by omega
          have e1 := fp (by omega)
          subst e1
          have := fbl (by omega)
          rw [decide_eq_true h0, decide_eq_true h1, decide_eq_true h2, Bool.true_and, Bool.true_and, Bool.true_and]
          exact opnd_102yes ga la ca _ fc _ gc _ lc _ cc _ _ _ _ _ _ _ _ _ w fn gn ln cn fb fo k (nth p.funcs k).params hk (by omega) (by omega) (by omega) (f1 k hk) (decide_eq_true h2)
        · rw [decide_eq_true h0, decide_eq_true h1, decide_eq_false h2]
          exact opnd_102c fa ga la ca _ fc _ gc _ lc _ cc _ _ _ _ _ _ _ _ _ v w fn gn ln cn (decide_eq_true h0) (decide_eq_true h1) (decide_eq_false h2)
      · rw [decide_eq_true h0, decide_eq_false h1]
        exact opnd_102b fa ga la ca _ fc _ gc _ lc _ cc _ _ _ _ _ _ _ _ _ v w fn gn ln cn (decide_eq_true h0) (decide_eq_false h1)
    · rw [decide_eq_false h0]
      exact opnd_102a fa ga la ca _ fc _ gc _ lc _ cc _ _ _ _ _ _ _ _ _ v w fn gn ln cn (decide_eq_false h0)
  · have e : operandB p f x 49 v = (decide (0 ≤ v) && (decide (v < (p.funcs.length : Int)) && ((nth p.funcs v.toNat).params == 1))) := rfl
    rw [e]
    by_cases h0 : 0 ≤ v
    · by_cases h1 : v < p.funcs.length
      · obtain ⟨k, rfl⟩ := Int.eq_ofNat_of_zero_le h0
        have hk : k < p.funcs.length := by omega
        have e1 := fp (by omega)
        subst e1
        have := fbl (by omega)
        rw [decide_eq_true h0, decide_eq_true h1, Bool.true_and, Bool.true_and]
        exact opnd_49yes ga la ca _ fc _ gc _ lc _ cc _ _ _ _ _ _ _ _ _ w fn gn ln cn fb fo k (nth p.funcs k).params hk (by omega) (by omega) (by omega) (f1 k hk)
      · rw [decide_eq_true h0, decide_eq_false h1]
        exact opnd_49no2 fa ga la ca _ fc _ gc _ lc _ cc _ _ _ _ _ _ _ _ _ v w fn gn ln cn (decide_eq_true h0) (decide_eq_false h1)
    · rw [decide_eq_false h0]
      exact opnd_49no1 fa ga la ca _ fc _ gc _ lc _ cc _ _ _ _ _ _ _ _ _ v w fn gn ln cn (decide_eq_false h0)
  · exact opnd_97 fa ga la ca _ fc _ gc _ lc _ cc _ _ _ _ _ _ _ _ _ v w fn gn ln cn
  · exact opnd_115 fa ga la ca _ fc _ gc _ lc _ cc _ _ _ _ _ _ _ _ _ v w fn gn ln cn
  · exact opnd_98 fa ga la ca _ fc _ gc _ lc _ cc _ _ _ _ _ _ _ _ _ v w fn gn ln cn
  · exact opnd_99 fa ga la ca _ fc _ gc _ lc _ cc _ _ _ _ _ _ _ _ _ v w fn gn ln cn
  · exact opnd_45 fa ga la ca _ fc _ gc _ lc _ cc _ _ _ _ _ _ _ _ _ v w fn gn ln cn
  · exact opnd_105 fa ga la ca _ fc _ gc _ lc _ cc _ _ _ _ _ _ _ _ _ v w fn gn ln cn

end Go.Proofs.Ytealeofgfgbheaa

namespace Go.Proofs.Ytealeofgfgbheaa
set_option linter.unusedVariables false
set_option linter.unusedSimpArgs false
open Go.RowKit

noncomputable def planI_A : Plan := mkPlan (regionOf Try.f58 2) [(3, .skip), (4, .skip), (5, .skip), (8, .skip), (9, .skip), (10, .skip), (11, .skip), (12, .skip), (13, .skip), (14, .skip), (15, .skip), (16, .skip), (19, .skip), (20, .skip), (21, .skip), (22, .skip), (23, .skip), (24, .skip), (25, .skip), (26, .skip), (27, .skip), (30, .skip), (31, .skip), (32, .skip), (33, .skip), (34, .skip), (35, .skip), (36, .skip), (37, .skip), (38, .skip)] []
noncomputable def planI_B : Plan := mkPlan (regionOf Try.f58 2) [(8, .skip), (9, .skip), (10, .skip), (11, .skip), (12, .skip), (13, .skip), (14, .skip), (15, .skip), (16, .skip), (19, .skip), (20, .skip), (21, .skip), (22, .skip), (23, .skip), (24, .skip), (25, .skip), (26, .skip), (27, .skip), (30, .skip), (31, .skip), (32, .skip), (33, .skip), (34, .skip), (35, .skip), (36, .skip), (37, .skip), (38, .skip)] []
noncomputable def planI_C : Plan := mkPlan (regionOf Try.f58 2) [(19, .skip), (20, .skip), (21, .skip), (22, .skip), (23, .skip), (24, .skip), (25, .skip), (26, .skip), (27, .skip), (30, .skip), (31, .skip), (32, .skip), (33, .skip), (34, .skip), (35, .skip), (36, .skip), (37, .skip), (38, .skip), (15, .new)] []
noncomputable def planI_D : Plan := mkPlan (regionOf Try.f58 2) [(30, .skip), (31, .skip), (32, .skip), (33, .skip), (34, .skip), (35, .skip), (36, .skip), (37, .skip), (38, .skip), (15, .new), (26, .new)] []
noncomputable def planI_E : Plan := mkPlan (regionOf Try.f58 2) [(15, .new), (26, .new), (37, .new)] []

def Shape (s : ByteArray) : Prop := s = ⟨#[]⟩ ∨ ∃ r0 r1 r2 : UInt8, s = ⟨#[r0, r1, r2]⟩ ∧ letter r0.toNat ∧ letter r1.toNat ∧ letter r2.toNat
theorem shape_ite {c : Prop} [Decidable c] {a b : ByteArray} (h1 : Shape a) (h2 : Shape b) : Shape (if c then a else b) := by
  split <;> assumption
theorem roles_shape (op : Int) : Shape (roles op) := by
  unfold roles
  repeat' refine shape_ite ?_ ?_
  all_goals first
    | exact .inl rfl
    | (refine .inr ⟨_, _, _, rfl, ?_, ?_, ?_⟩ <;> simp [letter])

def roleN (op : Int) (k : Nat) : Int := ((roles op).data.getD k 0).toNat
def instrTail (f : Fun) (x : Ins) : Bool :=
  if x.op = 24 then decide (wrap64 (x.a + x.c) < f.regs) && decide (x.c < 64) else if x.op = 25 then decide (x.b < 63) && decide (0 < f.regs) else !(x.op == 38) || decide (wrap64 (x.c + 1) < f.regs)
theorem tail1 {f : Fun} {x : Ins} (h : (x.op == 24) = true) (h1 : wrap64 (x.a + x.c) < f.regs) : decide (x.c < 64) = instrTail f x := by
  rw [beq_iff_eq] at h; simp [instrTail, h, h1]
theorem tail2 {f : Fun} {x : Ins} (h : (x.op == 24) = true) (h1 : f.regs ≤ wrap64 (x.a + x.c)) : false = instrTail f x := by
  rw [beq_iff_eq] at h
  have : ¬ wrap64 (x.a + x.c) < f.regs := by omega
  simp [instrTail, h, this]
theorem tail3 {f : Fun} {x : Ins} (h : (x.op == 24) = false) (h2 : (x.op == 25) = true) (h1 : x.b < 63) : decide (0 < f.regs) = instrTail f x := by
  rw [beq_iff_eq] at h2; simp [instrTail, h2, h1]
theorem tail4 {f : Fun} {x : Ins} (h : (x.op == 24) = false) (h2 : (x.op == 25) = true) (h1 : 63 ≤ x.b) : false = instrTail f x := by
  rw [beq_iff_eq] at h2
  have : ¬ x.b < 63 := by omega
  simp [instrTail, h2, this]
theorem tail5 {f : Fun} {x : Ins} (h : x.op = 38) : decide (wrap64 (x.c + 1) < f.regs) = instrTail f x := by simp [instrTail, h]
theorem tail6 {f : Fun} {x : Ins} (h : (x.op == 24) = false) (h2 : (x.op == 25) = false) (h3 : ¬ x.op = 38) : true = instrTail f x := by
  rw [beq_eq_false_iff_ne] at h h2; simp [instrTail, h, h2, h3]
/-- Whether an instruction is valid by itself. -/
def instrB (p : Prg) (f : Fun) (x : Ins) : Bool :=
  !(roles x.op).data.isEmpty && (decide (0 ≤ x.pos) && (operandB p f x (roleN x.op 0) x.a && (operandB p f x (roleN x.op 1) x.b && (operandB p f x (roleN x.op 2) x.c && instrTail f x))))

set_option maxRecDepth 100000 in
set_option maxHeartbeats 4000000 in
theorem instr_A (lo1 lo2 : Nat) (vf vg vl vc : Value) (p : Prg) (f : Fun) (x : Ins) (w : World) (hp : ProgAt lo1 w vf vg vl p) (hc : CodeAt lo2 w vc f.code) (hr : Hid (roles x.op = ⟨#[]⟩)) :
    Calls Try.prog 58 #[.agg #[vf, vg, vl, .int .i64 p.main], .agg #[.string f.name, .int .i64 f.params, .int .i64 f.regs, vc], .agg #[.int .i64 x.op, .int .i64 x.a, .int .i64 x.b, .int .i64 x.c, .int .i64 x.pos]] w fun e w' => e = .returned (.bool false) ∧ Below w.heap.size w w' := by
  go_enter Try.func58, Try.ntmps58
  go_wp2_with fail
  refine (roles_calls _ _).mono ?_
  rintro e w' ⟨rfl, rfl⟩
  rw [hr.out]
  go_wp2_with fail
  refine Plan.wp_facts planI_A [] (by kernel_rfl) rfl (by kernel_rfl) (by kernel_rfl) (Nat.le_refl _) ?_
  repeat (first | (apply Plan.runs_skip rfl rfl; simp only [Act.put, List.setIfInBounds_toArray, List.set_cons_zero, List.set_cons_succ]) | (apply Plan.runs_det rfl rfl; (· intro F w' hb hf; obtain ⟨hcl, hfz⟩ := bcell hb; go_simp; rfl); simp only [Act.put, List.setIfInBounds_toArray, List.set_cons_zero, List.set_cons_succ]))
  refine Plan.runs_nil (fun F w' hb hf => ?_)
  obtain ⟨hcl, hfz⟩ := bcell hb
  have hb2 := hid (((((Below.refl _ _).alloc (Nat.le_refl _) _).alloc (by simp) _).alloc (by simp; omega) _).trans (hb.mono (by simp; omega)))
  clear hb hf
  go_wp2
  all_goals
    go_ret
    exact ⟨rfl, hb2.out⟩

set_option maxRecDepth 100000 in
set_option maxHeartbeats 4000000 in
theorem instr_B (lo1 lo2 : Nat) (vf vg vl vc : Value) (p : Prg) (f : Fun) (x : Ins) (w : World) (hp : ProgAt lo1 w vf vg vl p) (hc : CodeAt lo2 w vc f.code) (r0 r1 r2 : UInt8) (hr : Hid (roles x.op = ⟨#[r0, r1, r2]⟩)) (l0 : letter r0.toNat) (l1 : letter r1.toNat) (l2 : letter r2.toNat) (h0 : decide (x.pos < 0) = true) :
    Calls Try.prog 58 #[.agg #[vf, vg, vl, .int .i64 p.main], .agg #[.string f.name, .int .i64 f.params, .int .i64 f.regs, vc], .agg #[.int .i64 x.op, .int .i64 x.a, .int .i64 x.b, .int .i64 x.c, .int .i64 x.pos]] w fun e w' => e = .returned (.bool false) ∧ Below w.heap.size w w' := by
  go_enter Try.func58, Try.ntmps58
  go_wp2_with fail
  refine (roles_calls _ _).mono ?_
  rintro e w' ⟨rfl, rfl⟩
  rw [hr.out]
  go_wp2_with fail
  refine Plan.wp_facts planI_B [] (by kernel_rfl) rfl (by kernel_rfl) (by kernel_rfl) (Nat.le_refl _) ?_
  repeat (first | (apply Plan.runs_skip rfl rfl; simp only [Act.put, List.setIfInBounds_toArray, List.set_cons_zero, List.set_cons_succ]) | (apply Plan.runs_det rfl rfl; (· intro F w' hb hf; obtain ⟨hcl, hfz⟩ := bcell hb; go_simp; rfl); simp only [Act.put, List.setIfInBounds_toArray, List.set_cons_zero, List.set_cons_succ]))
  refine Plan.runs_nil (fun F w' hb hf => ?_)
  obtain ⟨hcl, hfz⟩ := bcell hb
  have hb2 := hid (((((Below.refl _ _).alloc (Nat.le_refl _) _).alloc (by simp) _).alloc (by simp; omega) _).trans (hb.mono (by simp; omega)))
  clear hb hf
  go_wp2
  all_goals
    go_ret
    exact ⟨rfl, hb2.out⟩

set_option maxRecDepth 100000 in
set_option maxHeartbeats 4000000 in
theorem instr_C (lo1 lo2 : Nat) (vf vg vl vc : Value) (p : Prg) (f : Fun) (x : Ins) (w : World) (hp : ProgAt lo1 w vf vg vl p) (hc : CodeAt lo2 w vc f.code) (r0 r1 r2 : UInt8) (hr : Hid (roles x.op = ⟨#[r0, r1, r2]⟩)) (l0 : letter r0.toNat) (l1 : letter r1.toNat) (l2 : letter r2.toNat) (h0 : decide (x.pos < 0) = false) (e0 : Hid (operandB p f x r0.toNat x.a = false)) :
    Calls Try.prog 58 #[.agg #[vf, vg, vl, .int .i64 p.main], .agg #[.string f.name, .int .i64 f.params, .int .i64 f.regs, vc], .agg #[.int .i64 x.op, .int .i64 x.a, .int .i64 x.b, .int .i64 x.c, .int .i64 x.pos]] w fun e w' => e = .returned (.bool false) ∧ Below w.heap.size w w' := by
  go_enter Try.func58, Try.ntmps58
  go_wp2_with fail
  refine (roles_calls _ _).mono ?_
  rintro e w' ⟨rfl, rfl⟩
  rw [hr.out]
  go_wp2_with fail
  refine Plan.wp_facts planI_C [(15, valF (.bool false))] (by kernel_rfl) rfl (by kernel_rfl) (by kernel_rfl) (Nat.le_refl _) ?_
  repeat (first | (apply Plan.runs_skip rfl rfl; simp only [Act.put, List.setIfInBounds_toArray, List.set_cons_zero, List.set_cons_succ]) | (apply Plan.runs_det rfl rfl; (· intro F w' hb hf; obtain ⟨hcl, hfz⟩ := bcell hb; go_simp; rfl); simp only [Act.put, List.setIfInBounds_toArray, List.set_cons_zero, List.set_cons_succ]))
  refine Plan.runs_call_val (.bool false) 67 #[.agg #[vf, vg, vl, .int .i64 p.main], .agg #[.string f.name, .int .i64 f.params, .int .i64 f.regs, vc], .agg #[.int .i64 x.op, .int .i64 x.a, .int .i64 x.b, .int .i64 x.c, .int .i64 x.pos], .int .u8 (r0.toNat : Int), .int .i64 x.a] rfl rfl _ rfl rfl (fun F w' hb hf => by obtain ⟨hcl, hfz⟩ := bcell hb; go_simp; rfl) rfl (fun F w' hb hf => ?_) ?_
  · have hb2 : Below w.heap.size w w' := ((((Below.refl _ _).alloc (Nat.le_refl _) _).alloc (by simp) _).alloc (by simp; omega) _).trans (hb.mono (by simp; omega))
    have := operand_calls lo1 lo2 vf vg vl vc p f x r0.toNat x.a w' (hp.below hb2) (hc.below hb2) l0
    rw [e0.out] at this
    exact this
  simp only [Act.put, List.setIfInBounds_toArray, List.set_cons_zero, List.set_cons_succ]
  repeat (first | (apply Plan.runs_skip rfl rfl; simp only [Act.put, List.setIfInBounds_toArray, List.set_cons_zero, List.set_cons_succ]) | (apply Plan.runs_det rfl rfl; (· intro F w' hb hf; obtain ⟨hcl, hfz⟩ := bcell hb; go_simp; rfl); simp only [Act.put, List.setIfInBounds_toArray, List.set_cons_zero, List.set_cons_succ]))
  refine Plan.runs_nil (fun F w' hb hf => ?_)
  obtain ⟨hcl, hfz⟩ := bcell hb
  have hb2 := hid (((((Below.refl _ _).alloc (Nat.le_refl _) _).alloc (by simp) _).alloc (by simp; omega) _).trans (hb.mono (by simp; omega)))
  clear hb hf
  go_wp2
  all_goals
    go_ret
    exact ⟨rfl, hb2.out⟩

set_option maxRecDepth 100000 in
set_option maxHeartbeats 4000000 in
theorem instr_D (lo1 lo2 : Nat) (vf vg vl vc : Value) (p : Prg) (f : Fun) (x : Ins) (w : World) (hp : ProgAt lo1 w vf vg vl p) (hc : CodeAt lo2 w vc f.code) (r0 r1 r2 : UInt8) (hr : Hid (roles x.op = ⟨#[r0, r1, r2]⟩)) (l0 : letter r0.toNat) (l1 : letter r1.toNat) (l2 : letter r2.toNat) (h0 : decide (x.pos < 0) = false) (e0 : Hid (operandB p f x r0.toNat x.a = true)) (e1 : Hid (operandB p f x r1.toNat x.b = false)) :
    Calls Try.prog 58 #[.agg #[vf, vg, vl, .int .i64 p.main], .agg #[.string f.name, .int .i64 f.params, .int .i64 f.regs, vc], .agg #[.int .i64 x.op, .int .i64 x.a, .int .i64 x.b, .int .i64 x.c, .int .i64 x.pos]] w fun e w' => e = .returned (.bool false) ∧ Below w.heap.size w w' := by
  go_enter Try.func58, Try.ntmps58
  go_wp2_with fail
  refine (roles_calls _ _).mono ?_
  rintro e w' ⟨rfl, rfl⟩
  rw [hr.out]
  go_wp2_with fail
  refine Plan.wp_facts planI_D [(15, valF (.bool true)), (26, valF (.bool false))] (by kernel_rfl) rfl (by kernel_rfl) (by kernel_rfl) (Nat.le_refl _) ?_
  repeat (first | (apply Plan.runs_skip rfl rfl; simp only [Act.put, List.setIfInBounds_toArray, List.set_cons_zero, List.set_cons_succ]) | (apply Plan.runs_det rfl rfl; (· intro F w' hb hf; obtain ⟨hcl, hfz⟩ := bcell hb; go_simp; rfl); simp only [Act.put, List.setIfInBounds_toArray, List.set_cons_zero, List.set_cons_succ]))
  refine Plan.runs_call_val (.bool true) 67 #[.agg #[vf, vg, vl, .int .i64 p.main], .agg #[.string f.name, .int .i64 f.params, .int .i64 f.regs, vc], .agg #[.int .i64 x.op, .int .i64 x.a, .int .i64 x.b, .int .i64 x.c, .int .i64 x.pos], .int .u8 (r0.toNat : Int), .int .i64 x.a] rfl rfl _ rfl rfl (fun F w' hb hf => by obtain ⟨hcl, hfz⟩ := bcell hb; go_simp; rfl) rfl (fun F w' hb hf => ?_) ?_
  · have hb2 : Below w.heap.size w w' := ((((Below.refl _ _).alloc (Nat.le_refl _) _).alloc (by simp) _).alloc (by simp; omega) _).trans (hb.mono (by simp; omega))
    have := operand_calls lo1 lo2 vf vg vl vc p f x r0.toNat x.a w' (hp.below hb2) (hc.below hb2) l0
    rw [e0.out] at this
    exact this
  simp only [Act.put, List.setIfInBounds_toArray, List.set_cons_zero, List.set_cons_succ]
  repeat (first | (apply Plan.runs_skip rfl rfl; simp only [Act.put, List.setIfInBounds_toArray, List.set_cons_zero, List.set_cons_succ]) | (apply Plan.runs_det rfl rfl; (· intro F w' hb hf; obtain ⟨hcl, hfz⟩ := bcell hb; go_simp; rfl); simp only [Act.put, List.setIfInBounds_toArray, List.set_cons_zero, List.set_cons_succ]))
  refine Plan.runs_call_val (.bool false) 67 #[.agg #[vf, vg, vl, .int .i64 p.main], .agg #[.string f.name, .int .i64 f.params, .int .i64 f.regs, vc], .agg #[.int .i64 x.op, .int .i64 x.a, .int .i64 x.b, .int .i64 x.c, .int .i64 x.pos], .int .u8 (r1.toNat : Int), .int .i64 x.b] rfl rfl _ rfl rfl (fun F w' hb hf => by obtain ⟨hcl, hfz⟩ := bcell hb; go_simp; rfl) rfl (fun F w' hb hf => ?_) ?_
  · have hb2 : Below w.heap.size w w' := ((((Below.refl _ _).alloc (Nat.le_refl _) _).alloc (by simp) _).alloc (by simp; omega) _).trans (hb.mono (by simp; omega))
    have := operand_calls lo1 lo2 vf vg vl vc p f x r1.toNat x.b w' (hp.below hb2) (hc.below hb2) l1
    rw [e1.out] at this
    exact this
  simp only [Act.put, List.setIfInBounds_toArray, List.set_cons_zero, List.set_cons_succ]
  repeat (first | (apply Plan.runs_skip rfl rfl; simp only [Act.put, List.setIfInBounds_toArray, List.set_cons_zero, List.set_cons_succ]) | (apply Plan.runs_det rfl rfl; (· intro F w' hb hf; obtain ⟨hcl, hfz⟩ := bcell hb; go_simp; rfl); simp only [Act.put, List.setIfInBounds_toArray, List.set_cons_zero, List.set_cons_succ]))
  refine Plan.runs_nil (fun F w' hb hf => ?_)
  obtain ⟨hcl, hfz⟩ := bcell hb
  have hb2 := hid (((((Below.refl _ _).alloc (Nat.le_refl _) _).alloc (by simp) _).alloc (by simp; omega) _).trans (hb.mono (by simp; omega)))
  clear hb hf
  go_wp2
  all_goals
    go_ret
    exact ⟨rfl, hb2.out⟩

set_option maxRecDepth 100000 in
set_option maxHeartbeats 4000000 in
theorem instr_E (lo1 lo2 : Nat) (vf vg vl vc : Value) (p : Prg) (f : Fun) (x : Ins) (w : World) (hp : ProgAt lo1 w vf vg vl p) (hc : CodeAt lo2 w vc f.code) (r0 r1 r2 : UInt8) (hr : Hid (roles x.op = ⟨#[r0, r1, r2]⟩)) (l0 : letter r0.toNat) (l1 : letter r1.toNat) (l2 : letter r2.toNat) (h0 : decide (x.pos < 0) = false) (e0 : Hid (operandB p f x r0.toNat x.a = true)) (e1 : Hid (operandB p f x r1.toNat x.b = true)) (e2 : Hid (operandB p f x r2.toNat x.c = false)) :
    Calls Try.prog 58 #[.agg #[vf, vg, vl, .int .i64 p.main], .agg #[.string f.name, .int .i64 f.params, .int .i64 f.regs, vc], .agg #[.int .i64 x.op, .int .i64 x.a, .int .i64 x.b, .int .i64 x.c, .int .i64 x.pos]] w fun e w' => e = .returned (.bool false) ∧ Below w.heap.size w w' := by
  go_enter Try.func58, Try.ntmps58
  go_wp2_with fail
  refine (roles_calls _ _).mono ?_
  rintro e w' ⟨rfl, rfl⟩
  rw [hr.out]
  go_wp2_with fail
  refine Plan.wp_facts planI_E [(15, valF (.bool true)), (26, valF (.bool true)), (37, valF (.bool false))] (by kernel_rfl) rfl (by kernel_rfl) (by kernel_rfl) (Nat.le_refl _) ?_
  repeat (first | (apply Plan.runs_skip rfl rfl; simp only [Act.put, List.setIfInBounds_toArray, List.set_cons_zero, List.set_cons_succ]) | (apply Plan.runs_det rfl rfl; (· intro F w' hb hf; obtain ⟨hcl, hfz⟩ := bcell hb; go_simp; rfl); simp only [Act.put, List.setIfInBounds_toArray, List.set_cons_zero, List.set_cons_succ]))
  refine Plan.runs_call_val (.bool true) 67 #[.agg #[vf, vg, vl, .int .i64 p.main], .agg #[.string f.name, .int .i64 f.params, .int .i64 f.regs, vc], .agg #[.int .i64 x.op, .int .i64 x.a, .int .i64 x.b, .int .i64 x.c, .int .i64 x.pos], .int .u8 (r0.toNat : Int), .int .i64 x.a] rfl rfl _ rfl rfl (fun F w' hb hf => by obtain ⟨hcl, hfz⟩ := bcell hb; go_simp; rfl) rfl (fun F w' hb hf => ?_) ?_
  · have hb2 : Below w.heap.size w w' := ((((Below.refl _ _).alloc (Nat.le_refl _) _).alloc (by simp) _).alloc (by simp; omega) _).trans (hb.mono (by simp; omega))
    have := operand_calls lo1 lo2 vf vg vl vc p f x r0.toNat x.a w' (hp.below hb2) (hc.below hb2) l0
    rw [e0.out] at this
    exact this
  simp only [Act.put, List.setIfInBounds_toArray, List.set_cons_zero, List.set_cons_succ]
  repeat (first | (apply Plan.runs_skip rfl rfl; simp only [Act.put, List.setIfInBounds_toArray, List.set_cons_zero, List.set_cons_succ]) | (apply Plan.runs_det rfl rfl; (· intro F w' hb hf; obtain ⟨hcl, hfz⟩ := bcell hb; go_simp; rfl); simp only [Act.put, List.setIfInBounds_toArray, List.set_cons_zero, List.set_cons_succ]))
  refine Plan.runs_call_val (.bool true) 67 #[.agg #[vf, vg, vl, .int .i64 p.main], .agg #[.string f.name, .int .i64 f.params, .int .i64 f.regs, vc], .agg #[.int .i64 x.op, .int .i64 x.a, .int .i64 x.b, .int .i64 x.c, .int .i64 x.pos], .int .u8 (r1.toNat : Int), .int .i64 x.b] rfl rfl _ rfl rfl (fun F w' hb hf => by obtain ⟨hcl, hfz⟩ := bcell hb; go_simp; rfl) rfl (fun F w' hb hf => ?_) ?_
  · have hb2 : Below w.heap.size w w' := ((((Below.refl _ _).alloc (Nat.le_refl _) _).alloc (by simp) _).alloc (by simp; omega) _).trans (hb.mono (by simp; omega))
    have := operand_calls lo1 lo2 vf vg vl vc p f x r1.toNat x.b w' (hp.below hb2) (hc.below hb2) l1
    rw [e1.out] at this
    exact this
  simp only [Act.put, List.setIfInBounds_toArray, List.set_cons_zero, List.set_cons_succ]
  repeat (first | (apply Plan.runs_skip rfl rfl; simp only [Act.put, List.setIfInBounds_toArray, List.set_cons_zero, List.set_cons_succ]) | (apply Plan.runs_det rfl rfl; (· intro F w' hb hf; obtain ⟨hcl, hfz⟩ := bcell hb; go_simp; rfl); simp only [Act.put, List.setIfInBounds_toArray, List.set_cons_zero, List.set_cons_succ]))
  refine Plan.runs_call_val (.bool false) 67 #[.agg #[vf, vg, vl, .int .i64 p.main], .agg #[.string f.name, .int .i64 f.params, .int .i64 f.regs, vc], .agg #[.int .i64 x.op, .int .i64 x.a, .int .i64 x.b, .int .i64 x.c, .int .i64 x.pos], .int .u8 (r2.toNat : Int), .int .i64 x.c] rfl rfl _ rfl rfl (fun F w' hb hf => by obtain ⟨hcl, hfz⟩ := bcell hb; go_simp; rfl) rfl (fun F w' hb hf => ?_) ?_
  · have hb2 : Below w.heap.size w w' := ((((Below.refl _ _).alloc (Nat.le_refl _) _).alloc (by simp) _).alloc (by simp; omega) _).trans (hb.mono (by simp; omega))
    have := operand_calls lo1 lo2 vf vg vl vc p f x r2.toNat x.c w' (hp.below hb2) (hc.below hb2) l2
    rw [e2.out] at this
    exact this
  simp only [Act.put, List.setIfInBounds_toArray, List.set_cons_zero, List.set_cons_succ]
  repeat (first | (apply Plan.runs_skip rfl rfl; simp only [Act.put, List.setIfInBounds_toArray, List.set_cons_zero, List.set_cons_succ]) | (apply Plan.runs_det rfl rfl; (· intro F w' hb hf; obtain ⟨hcl, hfz⟩ := bcell hb; go_simp; rfl); simp only [Act.put, List.setIfInBounds_toArray, List.set_cons_zero, List.set_cons_succ]))
  refine Plan.runs_nil (fun F w' hb hf => ?_)
  obtain ⟨hcl, hfz⟩ := bcell hb
  have hb2 := hid (((((Below.refl _ _).alloc (Nat.le_refl _) _).alloc (by simp) _).alloc (by simp; omega) _).trans (hb.mono (by simp; omega)))
  clear hb hf
  go_wp2
  all_goals
    go_ret
    exact ⟨rfl, hb2.out⟩

set_option maxRecDepth 100000 in
set_option maxHeartbeats 4000000 in
theorem instr_F (lo1 lo2 : Nat) (vf vg vl vc : Value) (p : Prg) (f : Fun) (x : Ins) (w : World) (hp : ProgAt lo1 w vf vg vl p) (hc : CodeAt lo2 w vc f.code) (r0 r1 r2 : UInt8) (hr : Hid (roles x.op = ⟨#[r0, r1, r2]⟩)) (l0 : letter r0.toNat) (l1 : letter r1.toNat) (l2 : letter r2.toNat) (h0 : decide (x.pos < 0) = false) (e0 : Hid (operandB p f x r0.toNat x.a = true)) (e1 : Hid (operandB p f x r1.toNat x.b = true)) (e2 : Hid (operandB p f x r2.toNat x.c = true)) :
    Calls Try.prog 58 #[.agg #[vf, vg, vl, .int .i64 p.main], .agg #[.string f.name, .int .i64 f.params, .int .i64 f.regs, vc], .agg #[.int .i64 x.op, .int .i64 x.a, .int .i64 x.b, .int .i64 x.c, .int .i64 x.pos]] w fun e w' => e = .returned (.bool (instrTail f x)) ∧ Below w.heap.size w w' := by
  go_enter Try.func58, Try.ntmps58
  go_wp2_with fail
  refine (roles_calls _ _).mono ?_
  rintro e w' ⟨rfl, rfl⟩
  rw [hr.out]
  go_wp2_with fail
  refine Plan.wp_facts planI_E [(15, valF (.bool true)), (26, valF (.bool true)), (37, valF (.bool true))] (by kernel_rfl) rfl (by kernel_rfl) (by kernel_rfl) (Nat.le_refl _) ?_
  repeat (first | (apply Plan.runs_skip rfl rfl; simp only [Act.put, List.setIfInBounds_toArray, List.set_cons_zero, List.set_cons_succ]) | (apply Plan.runs_det rfl rfl; (· intro F w' hb hf; obtain ⟨hcl, hfz⟩ := bcell hb; go_simp; rfl); simp only [Act.put, List.setIfInBounds_toArray, List.set_cons_zero, List.set_cons_succ]))
  refine Plan.runs_call_val (.bool true) 67 #[.agg #[vf, vg, vl, .int .i64 p.main], .agg #[.string f.name, .int .i64 f.params, .int .i64 f.regs, vc], .agg #[.int .i64 x.op, .int .i64 x.a, .int .i64 x.b, .int .i64 x.c, .int .i64 x.pos], .int .u8 (r0.toNat : Int), .int .i64 x.a] rfl rfl _ rfl rfl (fun F w' hb hf => by obtain ⟨hcl, hfz⟩ := bcell hb; go_simp; rfl) rfl (fun F w' hb hf => ?_) ?_
  · have hb2 : Below w.heap.size w w' := ((((Below.refl _ _).alloc (Nat.le_refl _) _).alloc (by simp) _).alloc (by simp; omega) _).trans (hb.mono (by simp; omega))
    have := operand_calls lo1 lo2 vf vg vl vc p f x r0.toNat x.a w' (hp.below hb2) (hc.below hb2) l0
    rw [e0.out] at this
    exact this
  simp only [Act.put, List.setIfInBounds_toArray, List.set_cons_zero, List.set_cons_succ]
  repeat (first | (apply Plan.runs_skip rfl rfl; simp only [Act.put, List.setIfInBounds_toArray, List.set_cons_zero, List.set_cons_succ]) | (apply Plan.runs_det rfl rfl; (· intro F w' hb hf; obtain ⟨hcl, hfz⟩ := bcell hb; go_simp; rfl); simp only [Act.put, List.setIfInBounds_toArray, List.set_cons_zero, List.set_cons_succ]))
  refine Plan.runs_call_val (.bool true) 67 #[.agg #[vf, vg, vl, .int .i64 p.main], .agg #[.string f.name, .int .i64 f.params, .int .i64 f.regs, vc], .agg #[.int .i64 x.op, .int .i64 x.a, .int .i64 x.b, .int .i64 x.c, .int .i64 x.pos], .int .u8 (r1.toNat : Int), .int .i64 x.b] rfl rfl _ rfl rfl (fun F w' hb hf => by obtain ⟨hcl, hfz⟩ := bcell hb; go_simp; rfl) rfl (fun F w' hb hf => ?_) ?_
  · have hb2 : Below w.heap.size w w' := ((((Below.refl _ _).alloc (Nat.le_refl _) _).alloc (by simp) _).alloc (by simp; omega) _).trans (hb.mono (by simp; omega))
    have := operand_calls lo1 lo2 vf vg vl vc p f x r1.toNat x.b w' (hp.below hb2) (hc.below hb2) l1
    rw [e1.out] at this
    exact this
  simp only [Act.put, List.setIfInBounds_toArray, List.set_cons_zero, List.set_cons_succ]
  repeat (first | (apply Plan.runs_skip rfl rfl; simp only [Act.put, List.setIfInBounds_toArray, List.set_cons_zero, List.set_cons_succ]) | (apply Plan.runs_det rfl rfl; (· intro F w' hb hf; obtain ⟨hcl, hfz⟩ := bcell hb; go_simp; rfl); simp only [Act.put, List.setIfInBounds_toArray, List.set_cons_zero, List.set_cons_succ]))
  refine Plan.runs_call_val (.bool true) 67 #[.agg #[vf, vg, vl, .int .i64 p.main], .agg #[.string f.name, .int .i64 f.params, .int .i64 f.regs, vc], .agg #[.int .i64 x.op, .int .i64 x.a, .int .i64 x.b, .int .i64 x.c, .int .i64 x.pos], .int .u8 (r2.toNat : Int), .int .i64 x.c] rfl rfl _ rfl rfl (fun F w' hb hf => by obtain ⟨hcl, hfz⟩ := bcell hb; go_simp; rfl) rfl (fun F w' hb hf => ?_) ?_
  · have hb2 : Below w.heap.size w w' := ((((Below.refl _ _).alloc (Nat.le_refl _) _).alloc (by simp) _).alloc (by simp; omega) _).trans (hb.mono (by simp; omega))
    have := operand_calls lo1 lo2 vf vg vl vc p f x r2.toNat x.c w' (hp.below hb2) (hc.below hb2) l2
    rw [e2.out] at this
    exact this
  simp only [Act.put, List.setIfInBounds_toArray, List.set_cons_zero, List.set_cons_succ]
  repeat (first | (apply Plan.runs_skip rfl rfl; simp only [Act.put, List.setIfInBounds_toArray, List.set_cons_zero, List.set_cons_succ]) | (apply Plan.runs_det rfl rfl; (· intro F w' hb hf; obtain ⟨hcl, hfz⟩ := bcell hb; go_simp; rfl); simp only [Act.put, List.setIfInBounds_toArray, List.set_cons_zero, List.set_cons_succ]))
  refine Plan.runs_nil (fun F w' hb hf => ?_)
  obtain ⟨hcl, hfz⟩ := bcell hb
  have hb2 := hid (((((Below.refl _ _).alloc (Nat.le_refl _) _).alloc (by simp) _).alloc (by simp; omega) _).trans (hb.mono (by simp; omega)))
  clear hb hf
  go_wp2
  all_goals
    go_ret
    refine ⟨ret_bool ?_, hb2.out⟩
    first | exact tail1 ‹_› ‹_› | exact tail2 ‹_› ‹_› | exact tail3 ‹_› ‹_› ‹_› | exact tail4 ‹_› ‹_› ‹_› | exact tail5 ‹_› | exact tail6 ‹_› ‹_› ‹_›

theorem instr_calls (lo1 lo2 : Nat) (vf vg vl vc : Value) (p : Prg) (f : Fun) (x : Ins) (w : World) (hp : ProgAt lo1 w vf vg vl p) (hc : CodeAt lo2 w vc f.code) :
    Calls Try.prog 58 #[.agg #[vf, vg, vl, .int .i64 p.main], .agg #[.string f.name, .int .i64 f.params, .int .i64 f.regs, vc], .agg #[.int .i64 x.op, .int .i64 x.a, .int .i64 x.b, .int .i64 x.c, .int .i64 x.pos]] w fun e w' => e = .returned (.bool (instrB p f x)) ∧ Below w.heap.size w w' := by
  rcases roles_shape x.op with hr | ⟨r0, r1, r2, hr, l0, l1, l2⟩
  · have e : instrB p f x = false := by simp [instrB, hr]
    rw [e]
    exact instr_A lo1 lo2 vf vg vl vc p f x w hp hc hr
  · have e : instrB p f x = (decide (0 ≤ x.pos) && (operandB p f x r0.toNat x.a && (operandB p f x r1.toNat x.b && (operandB p f x r2.toNat x.c && instrTail f x)))) := by
      simp [instrB, roleN, hr]
    rw [e]
    by_cases h0 : x.pos < 0
    · have : decide (0 ≤ x.pos) = false := by simpa using h0
      rw [this]
      exact instr_B lo1 lo2 vf vg vl vc p f x w hp hc r0 r1 r2 hr l0 l1 l2 (decide_eq_true h0)
    · have h1 : decide (0 ≤ x.pos) = true := by simpa using h0
      rw [h1, Bool.true_and]
      cases e0 : operandB p f x r0.toNat x.a with
      | false => exact instr_C lo1 lo2 vf vg vl vc p f x w hp hc r0 r1 r2 hr l0 l1 l2 (decide_eq_false h0) e0
      | true =>
        cases e1 : operandB p f x r1.toNat x.b with
        | false => exact instr_D lo1 lo2 vf vg vl vc p f x w hp hc r0 r1 r2 hr l0 l1 l2 (decide_eq_false h0) e0 e1
        | true =>
          cases e2 : operandB p f x r2.toNat x.c with
          | false => exact instr_E lo1 lo2 vf vg vl vc p f x w hp hc r0 r1 r2 hr l0 l1 l2 (decide_eq_false h0) e0 e1 e2
          | true => exact instr_F lo1 lo2 vf vg vl vc p f x w hp hc r0 r1 r2 hr l0 l1 l2 (decide_eq_false h0) e0 e1 e2

end Go.Proofs.Ytealeofgfgbheaa
