/-
  Whether an operand suits its role, as package code checks it.
-/
import Derived.Deep.QuietTactic
import Derived.BigQuiet
import Derived.Test.YtealeofgfgbheaaZSpecC
namespace Go.Proofs.Ytealeofgfgbheaa
set_option linter.unusedVariables false
set_option linter.unusedSimpArgs false
open Go.RowKit

theorem btw_calls (v lo hi : Int) (w : World) : Calls Try.prog 44 #[.int .i64 v, .int .i64 lo, .int .i64 hi] w fun e w' => e = .returned (.bool (btw v lo hi)) ∧ w' = w := by
  go_enter Try.func44, Try.ntmps44
  go_wp2
  all_goals
    go_ret
    exact ⟨ret_bool (by simp [btw, *] <;> omega), rfl⟩
theorem kind_calls (v : Int) (w : World) : Calls Try.prog 47 #[.int .i64 v] w fun e w' => e = .returned (.bool (kindB v)) ∧ w' = w := by
  go_enter Try.func47, Try.ntmps47
  go_wp2
  all_goals
    go_ret
    exact ⟨ret_bool (by simp [kindB, *] <;> omega), rfl⟩

set_option maxRecDepth 100000 in
set_option maxHeartbeats 1000000 in
theorem copnd_100 (fa ga la ca : Option Addr) (nf fc ng gc nl lc nc cc : Nat) (main : Int) (nm : ByteArray) (pa re op a b c pos : Int) (v : Int) (w : World) (hre : 0 ≤ re) (hre2 : re ≤ 64) (hnf : nf ≤ 140737488355328) (hng : ng ≤ 140737488355328) (hnl : nl ≤ 140737488355328) (hnc : nc ≤ 140737488355328)  :
    Calls Try.prog 69 #[.agg #[.slice fa nf fc, .slice ga ng gc, .slice la nl lc, .int .i64 main, .string nm, .int .i64 pa, .int .i64 re, .slice ca nc cc], .agg #[.int .i64 op, .int .i64 a, .int .i64 b, .int .i64 c, .int .i64 pos], .int .u8 100, .int .i64 v] w fun e w' => e = .returned (.bool (btw v 0 (re - 1))) ∧ Below w.heap.size w w' := by
  go_enter Try.func69, Try.ntmps69
  go_wp2
  all_goals
    go_ret
    exact ⟨ret_bool (by first | rfl | (simp [btw, *] <;> omega)), ((Below.refl _ _).alloc (Nat.le_refl _) _).alloc (by simp) _⟩

set_option maxRecDepth 100000 in
set_option maxHeartbeats 1000000 in
theorem copnd_115 (fa ga la ca : Option Addr) (nf fc ng gc nl lc nc cc : Nat) (main : Int) (nm : ByteArray) (pa re op a b c pos : Int) (v : Int) (w : World) (hre : 0 ≤ re) (hre2 : re ≤ 64) (hnf : nf ≤ 140737488355328) (hng : ng ≤ 140737488355328) (hnl : nl ≤ 140737488355328) (hnc : nc ≤ 140737488355328)  :
    Calls Try.prog 69 #[.agg #[.slice fa nf fc, .slice ga ng gc, .slice la nl lc, .int .i64 main, .string nm, .int .i64 pa, .int .i64 re, .slice ca nc cc], .agg #[.int .i64 op, .int .i64 a, .int .i64 b, .int .i64 c, .int .i64 pos], .int .u8 115, .int .i64 v] w fun e w' => e = .returned (.bool (btw v 0 (re - 1))) ∧ Below w.heap.size w w' := by
  go_enter Try.func69, Try.ntmps69
  go_wp2
  all_goals
    go_ret
    exact ⟨ret_bool (by first | rfl | (simp [btw, *] <;> omega)), ((Below.refl _ _).alloc (Nat.le_refl _) _).alloc (by simp) _⟩

set_option maxRecDepth 100000 in
set_option maxHeartbeats 1000000 in
theorem copnd_68 (fa ga la ca : Option Addr) (nf fc ng gc nl lc nc cc : Nat) (main : Int) (nm : ByteArray) (pa re op a b c pos : Int) (v : Int) (w : World) (hre : 0 ≤ re) (hre2 : re ≤ 64) (hnf : nf ≤ 140737488355328) (hng : ng ≤ 140737488355328) (hnl : nl ≤ 140737488355328) (hnc : nc ≤ 140737488355328)  :
    Calls Try.prog 69 #[.agg #[.slice fa nf fc, .slice ga ng gc, .slice la nl lc, .int .i64 main, .string nm, .int .i64 pa, .int .i64 re, .slice ca nc cc], .agg #[.int .i64 op, .int .i64 a, .int .i64 b, .int .i64 c, .int .i64 pos], .int .u8 68, .int .i64 v] w fun e w' => e = .returned (.bool (btw v (-1) (re - 1))) ∧ Below w.heap.size w w' := by
  go_enter Try.func69, Try.ntmps69
  go_wp2
  all_goals
    go_ret
    exact ⟨ret_bool (by first | rfl | (simp [btw, *] <;> omega)), ((Below.refl _ _).alloc (Nat.le_refl _) _).alloc (by simp) _⟩

set_option maxRecDepth 100000 in
set_option maxHeartbeats 1000000 in
theorem copnd_83 (fa ga la ca : Option Addr) (nf fc ng gc nl lc nc cc : Nat) (main : Int) (nm : ByteArray) (pa re op a b c pos : Int) (v : Int) (w : World) (hre : 0 ≤ re) (hre2 : re ≤ 64) (hnf : nf ≤ 140737488355328) (hng : ng ≤ 140737488355328) (hnl : nl ≤ 140737488355328) (hnc : nc ≤ 140737488355328)  :
    Calls Try.prog 69 #[.agg #[.slice fa nf fc, .slice ga ng gc, .slice la nl lc, .int .i64 main, .string nm, .int .i64 pa, .int .i64 re, .slice ca nc cc], .agg #[.int .i64 op, .int .i64 a, .int .i64 b, .int .i64 c, .int .i64 pos], .int .u8 83, .int .i64 v] w fun e w' => e = .returned (.bool (btw v (-1) (re - 1))) ∧ Below w.heap.size w w' := by
  go_enter Try.func69, Try.ntmps69
  go_wp2
  all_goals
    go_ret
    exact ⟨ret_bool (by first | rfl | (simp [btw, *] <;> omega)), ((Below.refl _ _).alloc (Nat.le_refl _) _).alloc (by simp) _⟩

set_option maxRecDepth 100000 in
set_option maxHeartbeats 1000000 in
theorem copnd_103 (fa ga la ca : Option Addr) (nf fc ng gc nl lc nc cc : Nat) (main : Int) (nm : ByteArray) (pa re op a b c pos : Int) (v : Int) (w : World) (hre : 0 ≤ re) (hre2 : re ≤ 64) (hnf : nf ≤ 140737488355328) (hng : ng ≤ 140737488355328) (hnl : nl ≤ 140737488355328) (hnc : nc ≤ 140737488355328)  :
    Calls Try.prog 69 #[.agg #[.slice fa nf fc, .slice ga ng gc, .slice la nl lc, .int .i64 main, .string nm, .int .i64 pa, .int .i64 re, .slice ca nc cc], .agg #[.int .i64 op, .int .i64 a, .int .i64 b, .int .i64 c, .int .i64 pos], .int .u8 103, .int .i64 v] w fun e w' => e = .returned (.bool (btw v 0 ((ng : Int) - 1))) ∧ Below w.heap.size w w' := by
  go_enter Try.func69, Try.ntmps69
  go_wp2
  all_goals
    go_ret
    exact ⟨ret_bool (by first | rfl | (simp [btw, *] <;> omega)), ((Below.refl _ _).alloc (Nat.le_refl _) _).alloc (by simp) _⟩

set_option maxRecDepth 100000 in
set_option maxHeartbeats 1000000 in
theorem copnd_108 (fa ga la ca : Option Addr) (nf fc ng gc nl lc nc cc : Nat) (main : Int) (nm : ByteArray) (pa re op a b c pos : Int) (v : Int) (w : World) (hre : 0 ≤ re) (hre2 : re ≤ 64) (hnf : nf ≤ 140737488355328) (hng : ng ≤ 140737488355328) (hnl : nl ≤ 140737488355328) (hnc : nc ≤ 140737488355328)  :
    Calls Try.prog 69 #[.agg #[.slice fa nf fc, .slice ga ng gc, .slice la nl lc, .int .i64 main, .string nm, .int .i64 pa, .int .i64 re, .slice ca nc cc], .agg #[.int .i64 op, .int .i64 a, .int .i64 b, .int .i64 c, .int .i64 pos], .int .u8 108, .int .i64 v] w fun e w' => e = .returned (.bool (btw v 0 ((nl : Int) - 1))) ∧ Below w.heap.size w w' := by
  go_enter Try.func69, Try.ntmps69
  go_wp2
  all_goals
    go_ret
    exact ⟨ret_bool (by first | rfl | (simp [btw, *] <;> omega)), ((Below.refl _ _).alloc (Nat.le_refl _) _).alloc (by simp) _⟩

set_option maxRecDepth 100000 in
set_option maxHeartbeats 1000000 in
theorem copnd_97 (fa ga la ca : Option Addr) (nf fc ng gc nl lc nc cc : Nat) (main : Int) (nm : ByteArray) (pa re op a b c pos : Int) (v : Int) (w : World) (hre : 0 ≤ re) (hre2 : re ≤ 64) (hnf : nf ≤ 140737488355328) (hng : ng ≤ 140737488355328) (hnl : nl ≤ 140737488355328) (hnc : nc ≤ 140737488355328)  :
    Calls Try.prog 69 #[.agg #[.slice fa nf fc, .slice ga ng gc, .slice la nl lc, .int .i64 main, .string nm, .int .i64 pa, .int .i64 re, .slice ca nc cc], .agg #[.int .i64 op, .int .i64 a, .int .i64 b, .int .i64 c, .int .i64 pos], .int .u8 97, .int .i64 v] w fun e w' => e = .returned (.bool (decide (0 ≤ v))) ∧ Below w.heap.size w w' := by
  go_enter Try.func69, Try.ntmps69
  go_wp2
  all_goals
    go_ret
    exact ⟨ret_bool (by first | rfl | (simp [btw, *] <;> omega)), ((Below.refl _ _).alloc (Nat.le_refl _) _).alloc (by simp) _⟩

set_option maxRecDepth 100000 in
set_option maxHeartbeats 1000000 in
theorem copnd_110 (fa ga la ca : Option Addr) (nf fc ng gc nl lc nc cc : Nat) (main : Int) (nm : ByteArray) (pa re op a b c pos : Int) (v : Int) (w : World) (hre : 0 ≤ re) (hre2 : re ≤ 64) (hnf : nf ≤ 140737488355328) (hng : ng ≤ 140737488355328) (hnl : nl ≤ 140737488355328) (hnc : nc ≤ 140737488355328)  :
    Calls Try.prog 69 #[.agg #[.slice fa nf fc, .slice ga ng gc, .slice la nl lc, .int .i64 main, .string nm, .int .i64 pa, .int .i64 re, .slice ca nc cc], .agg #[.int .i64 op, .int .i64 a, .int .i64 b, .int .i64 c, .int .i64 pos], .int .u8 110, .int .i64 v] w fun e w' => e = .returned (.bool (btw v 0 64)) ∧ Below w.heap.size w w' := by
  go_enter Try.func69, Try.ntmps69
  go_wp2
  all_goals
    go_ret
    exact ⟨ret_bool (by first | rfl | (simp [btw, *] <;> omega)), ((Below.refl _ _).alloc (Nat.le_refl _) _).alloc (by simp) _⟩

set_option maxRecDepth 100000 in
set_option maxHeartbeats 1000000 in
theorem copnd_120 (fa ga la ca : Option Addr) (nf fc ng gc nl lc nc cc : Nat) (main : Int) (nm : ByteArray) (pa re op a b c pos : Int) (v : Int) (w : World) (hre : 0 ≤ re) (hre2 : re ≤ 64) (hnf : nf ≤ 140737488355328) (hng : ng ≤ 140737488355328) (hnl : nl ≤ 140737488355328) (hnc : nc ≤ 140737488355328)  :
    Calls Try.prog 69 #[.agg #[.slice fa nf fc, .slice ga ng gc, .slice la nl lc, .int .i64 main, .string nm, .int .i64 pa, .int .i64 re, .slice ca nc cc], .agg #[.int .i64 op, .int .i64 a, .int .i64 b, .int .i64 c, .int .i64 pos], .int .u8 120, .int .i64 v] w fun e w' => e = .returned (.bool (btw v 0 8)) ∧ Below w.heap.size w w' := by
  go_enter Try.func69, Try.ntmps69
  go_wp2
  all_goals
    go_ret
    exact ⟨ret_bool (by first | rfl | (simp [btw, *] <;> omega)), ((Below.refl _ _).alloc (Nat.le_refl _) _).alloc (by simp) _⟩

set_option maxRecDepth 100000 in
set_option maxHeartbeats 1000000 in
theorem copnd_98 (fa ga la ca : Option Addr) (nf fc ng gc nl lc nc cc : Nat) (main : Int) (nm : ByteArray) (pa re op a b c pos : Int) (v : Int) (w : World) (hre : 0 ≤ re) (hre2 : re ≤ 64) (hnf : nf ≤ 140737488355328) (hng : ng ≤ 140737488355328) (hnl : nl ≤ 140737488355328) (hnc : nc ≤ 140737488355328)  :
    Calls Try.prog 69 #[.agg #[.slice fa nf fc, .slice ga ng gc, .slice la nl lc, .int .i64 main, .string nm, .int .i64 pa, .int .i64 re, .slice ca nc cc], .agg #[.int .i64 op, .int .i64 a, .int .i64 b, .int .i64 c, .int .i64 pos], .int .u8 98, .int .i64 v] w fun e w' => e = .returned (.bool ((v == 0) || (v == 1))) ∧ Below w.heap.size w w' := by
  go_enter Try.func69, Try.ntmps69
  go_wp2
  all_goals
    go_ret
    exact ⟨ret_bool (by first | rfl | (simp [btw, *] <;> omega)), ((Below.refl _ _).alloc (Nat.le_refl _) _).alloc (by simp) _⟩

set_option maxRecDepth 100000 in
set_option maxHeartbeats 1000000 in
theorem copnd_105 (fa ga la ca : Option Addr) (nf fc ng gc nl lc nc cc : Nat) (main : Int) (nm : ByteArray) (pa re op a b c pos : Int) (v : Int) (w : World) (hre : 0 ≤ re) (hre2 : re ≤ 64) (hnf : nf ≤ 140737488355328) (hng : ng ≤ 140737488355328) (hnl : nl ≤ 140737488355328) (hnc : nc ≤ 140737488355328)  :
    Calls Try.prog 69 #[.agg #[.slice fa nf fc, .slice ga ng gc, .slice la nl lc, .int .i64 main, .string nm, .int .i64 pa, .int .i64 re, .slice ca nc cc], .agg #[.int .i64 op, .int .i64 a, .int .i64 b, .int .i64 c, .int .i64 pos], .int .u8 105, .int .i64 v] w fun e w' => e = .returned (.bool (true)) ∧ Below w.heap.size w w' := by
  go_enter Try.func69, Try.ntmps69
  go_wp2
  all_goals
    go_ret
    exact ⟨ret_bool (by first | rfl | (simp [btw, *] <;> omega)), ((Below.refl _ _).alloc (Nat.le_refl _) _).alloc (by simp) _⟩

set_option maxRecDepth 100000 in
set_option maxHeartbeats 1000000 in
theorem copnd_45 (fa ga la ca : Option Addr) (nf fc ng gc nl lc nc cc : Nat) (main : Int) (nm : ByteArray) (pa re op a b c pos : Int) (v : Int) (w : World) (hre : 0 ≤ re) (hre2 : re ≤ 64) (hnf : nf ≤ 140737488355328) (hng : ng ≤ 140737488355328) (hnl : nl ≤ 140737488355328) (hnc : nc ≤ 140737488355328)  :
    Calls Try.prog 69 #[.agg #[.slice fa nf fc, .slice ga ng gc, .slice la nl lc, .int .i64 main, .string nm, .int .i64 pa, .int .i64 re, .slice ca nc cc], .agg #[.int .i64 op, .int .i64 a, .int .i64 b, .int .i64 c, .int .i64 pos], .int .u8 45, .int .i64 v] w fun e w' => e = .returned (.bool (v == 0)) ∧ Below w.heap.size w w' := by
  go_enter Try.func69, Try.ntmps69
  go_wp2
  all_goals
    go_ret
    exact ⟨ret_bool (by first | rfl | (simp [btw, *] <;> omega)), ((Below.refl _ _).alloc (Nat.le_refl _) _).alloc (by simp) _⟩

set_option maxRecDepth 100000 in
set_option maxHeartbeats 1000000 in
theorem copnd_107 (fa ga la ca : Option Addr) (nf fc ng gc nl lc nc cc : Nat) (main : Int) (nm : ByteArray) (pa re op a b c pos : Int) (v : Int) (w : World) (hre : 0 ≤ re) (hre2 : re ≤ 64) (hnf : nf ≤ 140737488355328) (hng : ng ≤ 140737488355328) (hnl : nl ≤ 140737488355328) (hnc : nc ≤ 140737488355328)  :
    Calls Try.prog 69 #[.agg #[.slice fa nf fc, .slice ga ng gc, .slice la nl lc, .int .i64 main, .string nm, .int .i64 pa, .int .i64 re, .slice ca nc cc], .agg #[.int .i64 op, .int .i64 a, .int .i64 b, .int .i64 c, .int .i64 pos], .int .u8 107, .int .i64 v] w fun e w' => e = .returned (.bool (btw v 0 63 && decide (wrap64 (a + v) < re))) ∧ Below w.heap.size w w' := by
  go_enter Try.func69, Try.ntmps69
  go_wp2
  all_goals
    go_ret
    exact ⟨ret_bool (by first | rfl | (simp [btw, *] <;> omega)), ((Below.refl _ _).alloc (Nat.le_refl _) _).alloc (by simp) _⟩

set_option maxRecDepth 100000 in
set_option maxHeartbeats 1000000 in
theorem copnd_112 (fa ga la ca : Option Addr) (nf fc ng gc nl lc nc cc : Nat) (main : Int) (nm : ByteArray) (pa re op a b c pos : Int) (v : Int) (w : World) (hre : 0 ≤ re) (hre2 : re ≤ 64) (hnf : nf ≤ 140737488355328) (hng : ng ≤ 140737488355328) (hnl : nl ≤ 140737488355328) (hnc : nc ≤ 140737488355328)  :
    Calls Try.prog 69 #[.agg #[.slice fa nf fc, .slice ga ng gc, .slice la nl lc, .int .i64 main, .string nm, .int .i64 pa, .int .i64 re, .slice ca nc cc], .agg #[.int .i64 op, .int .i64 a, .int .i64 b, .int .i64 c, .int .i64 pos], .int .u8 112, .int .i64 v] w fun e w' => e = .returned (.bool (btw v 0 62 && decide (0 < re))) ∧ Below w.heap.size w w' := by
  go_enter Try.func69, Try.ntmps69
  go_wp2
  all_goals
    go_ret
    exact ⟨ret_bool (by first | rfl | (simp [btw, *] <;> omega)), ((Below.refl _ _).alloc (Nat.le_refl _) _).alloc (by simp) _⟩

theorem neg_case (b : Int) : wrap64 (wrap64 (wrap64 (-b) - 1) + wrap64 (2 * b)) = wrap64 (b - 1) := by unfold wrap64; omega
set_option maxRecDepth 100000 in
set_option maxHeartbeats 1000000 in
theorem copnd_118 (fa ga la ca : Option Addr) (nf fc ng gc nl lc nc cc : Nat) (main : Int) (nm : ByteArray) (pa re op a b c pos : Int) (v : Int) (w : World) (hre : 0 ≤ re) (hre2 : re ≤ 64) (hnf : nf ≤ 140737488355328) (hng : ng ≤ 140737488355328) (hnl : nl ≤ 140737488355328) (hnc : nc ≤ 140737488355328)  :
    Calls Try.prog 69 #[.agg #[.slice fa nf fc, .slice ga ng gc, .slice la nl lc, .int .i64 main, .string nm, .int .i64 pa, .int .i64 re, .slice ca nc cc], .agg #[.int .i64 op, .int .i64 a, .int .i64 b, .int .i64 c, .int .i64 pos], .int .u8 118, .int .i64 v] w fun e w' => e = .returned (.bool (btw v (wrap64 (b - 1)) (re - 1))) ∧ Below w.heap.size w w' := by
  go_enter Try.func69, Try.ntmps69
  go_wp2
  all_goals
    go_ret
    exact ⟨ret_bool (by have hn := neg_case b; simp [btw, *] <;> omega), ((Below.refl _ _).alloc (Nat.le_refl _) _).alloc (by simp) _⟩

set_option maxRecDepth 100000 in
set_option maxHeartbeats 1000000 in
theorem copnd_116no (fa ga la ca : Option Addr) (nf fc ng gc nl lc nc cc : Nat) (main : Int) (nm : ByteArray) (pa re op a b c pos : Int) (v : Int) (w : World) (hre : 0 ≤ re) (hre2 : re ≤ 64) (hnf : nf ≤ 140737488355328) (hng : ng ≤ 140737488355328) (hnl : nl ≤ 140737488355328) (hnc : nc ≤ 140737488355328) (hv : btw v 0 ((nc : Int) - 1) = false) :
    Calls Try.prog 69 #[.agg #[.slice fa nf fc, .slice ga ng gc, .slice la nl lc, .int .i64 main, .string nm, .int .i64 pa, .int .i64 re, .slice ca nc cc], .agg #[.int .i64 op, .int .i64 a, .int .i64 b, .int .i64 c, .int .i64 pos], .int .u8 116, .int .i64 v] w fun e w' => e = .returned (.bool (false)) ∧ Below w.heap.size w w' := by
  go_enter Try.func69, Try.ntmps69
  go_wp2_with (go_at_call 44; refine (btw_calls _ _ _ _).mono ?_; rintro e w1 ⟨rfl, rfl⟩)
  all_goals
    go_ret
    exact ⟨ret_bool (by first | rfl | (simp [btw, *] <;> omega)), ((Below.refl _ _).alloc (Nat.le_refl _) _).alloc (by simp) _⟩

set_option maxRecDepth 100000 in
set_option maxHeartbeats 1000000 in
theorem copnd_116yes (fa ga la : Option Addr) (nf fc ng gc nl lc nc cc : Nat) (main : Int) (nm : ByteArray) (pa re op a b c pos : Int)  (w : World) (hre : 0 ≤ re) (hre2 : re ≤ 64) (hnf : nf ≤ 140737488355328) (hng : ng ≤ 140737488355328) (hnl : nl ≤ 140737488355328) (hnc : nc ≤ 140737488355328) (cb co k : Nat) (x : Int) (hk : k < nc) (hcb : cb < w.heap.size) (hcb1 : cb < w.heap.size + 1) (hcb2 : cb < w.heap.size + 1 + 1) (q0 : w.cell? ⟨cb, co + k * 5, none⟩ = some (.int .i64 x)) :
    Calls Try.prog 69 #[.agg #[.slice fa nf fc, .slice ga ng gc, .slice la nl lc, .int .i64 main, .string nm, .int .i64 pa, .int .i64 re, .slice (some ⟨cb, co, none⟩) nc cc], .agg #[.int .i64 op, .int .i64 a, .int .i64 b, .int .i64 c, .int .i64 pos], .int .u8 116, .int .i64 k] w fun e w' => e = .returned (.bool (!(x == 51))) ∧ Below w.heap.size w w' := by
  go_enter Try.func69, Try.ntmps69
  go_wp2
  all_goals
    go_ret
    exact ⟨ret_bool (by first | rfl | (simp [btw, *] <;> omega)), ((Below.refl _ _).alloc (Nat.le_refl _) _).alloc (by simp) _⟩

set_option maxRecDepth 100000 in
set_option maxHeartbeats 1000000 in
theorem copnd_99no (fa ga la ca : Option Addr) (nf fc ng gc nl lc nc cc : Nat) (main : Int) (nm : ByteArray) (pa re op a b c pos : Int) (v : Int) (w : World) (hre : 0 ≤ re) (hre2 : re ≤ 64) (hnf : nf ≤ 140737488355328) (hng : ng ≤ 140737488355328) (hnl : nl ≤ 140737488355328) (hnc : nc ≤ 140737488355328) (hv : btw v 0 ((nf : Int) - 1) = false) :
    Calls Try.prog 69 #[.agg #[.slice fa nf fc, .slice ga ng gc, .slice la nl lc, .int .i64 main, .string nm, .int .i64 pa, .int .i64 re, .slice ca nc cc], .agg #[.int .i64 op, .int .i64 a, .int .i64 b, .int .i64 c, .int .i64 pos], .int .u8 99, .int .i64 v] w fun e w' => e = .returned (.bool (false)) ∧ Below w.heap.size w w' := by
  go_enter Try.func69, Try.ntmps69
  go_wp2_with (go_at_call 44; refine (btw_calls _ _ _ _).mono ?_; rintro e w1 ⟨rfl, rfl⟩)
  all_goals
    go_ret
    exact ⟨ret_bool (by first | rfl | (simp [btw, *] <;> omega)), ((Below.refl _ _).alloc (Nat.le_refl _) _).alloc (by simp) _⟩

set_option maxRecDepth 100000 in
set_option maxHeartbeats 1000000 in
theorem copnd_99yes (ga la ca : Option Addr) (nf fc ng gc nl lc nc cc : Nat) (main : Int) (nm : ByteArray) (pa re op a b c pos : Int)  (w : World) (hre : 0 ≤ re) (hre2 : re ≤ 64) (hnf : nf ≤ 140737488355328) (hng : ng ≤ 140737488355328) (hnl : nl ≤ 140737488355328) (hnc : nc ≤ 140737488355328) (fb fo k : Nat) (x : Int) (hk : k < nf) (hcb : fb < w.heap.size) (hcb1 : fb < w.heap.size + 1) (hcb2 : fb < w.heap.size + 1 + 1) (q0 : w.cell? ⟨fb, fo + k * 4 + 1, none⟩ = some (.int .i64 x)) :
    Calls Try.prog 69 #[.agg #[.slice (some ⟨fb, fo, none⟩) nf fc, .slice ga ng gc, .slice la nl lc, .int .i64 main, .string nm, .int .i64 pa, .int .i64 re, .slice ca nc cc], .agg #[.int .i64 op, .int .i64 a, .int .i64 b, .int .i64 c, .int .i64 pos], .int .u8 99, .int .i64 k] w fun e w' => e = .returned (.bool (x == 1)) ∧ Below w.heap.size w w' := by
  go_enter Try.func69, Try.ntmps69
  go_wp2
  all_goals
    go_ret
    exact ⟨ret_bool (by first | rfl | (simp [btw, *] <;> omega)), ((Below.refl _ _).alloc (Nat.le_refl _) _).alloc (by simp) _⟩

theorem wrapId (x : Int) (h1 : -1000000000000000 ≤ x) (h2 : x ≤ 1000000000000000) : IntKind.i64.wrap x = x := by
  simp only [IntKind.wrap, IntKind.bits, IntKind.signed]
  have e : (2 : Int) ^ 64 = 18446744073709551616 := by decide
  have e2 : (2 : Int) ^ 63 = 9223372036854775808 := by decide
  simp only [e, e2, Nat.reduceSub, Bool.true_and, decide_eq_true_eq]
  split <;> omega
noncomputable def planO_A : Plan := mkPlan (regionOf Try.f69 15) [(6, .new), (8, .skip), (9, .skip), (10, .skip), (11, .skip), (12, .skip), (13, .skip), (16, .skip), (17, .skip), (18, .skip), (19, .skip), (20, .skip), (21, .skip), (22, .skip), (23, .skip), (24, .skip), (25, .skip), (26, .skip), (27, .skip), (28, .skip), (29, .skip)] []
noncomputable def planO_B : Plan := mkPlan (regionOf Try.f69 15) [(6, .new), (13, .new), (16, .skip), (17, .skip), (18, .skip), (19, .skip), (20, .skip), (21, .skip), (22, .skip), (23, .skip), (24, .skip), (25, .skip), (26, .skip), (27, .skip), (28, .skip), (29, .skip)] []
noncomputable def planO_C : Plan := mkPlan (regionOf Try.f69 15) [(6, .new), (13, .new)] []

set_option maxRecDepth 100000 in
set_option maxHeartbeats 1000000 in
theorem copnd_102a (fa ga la ca : Option Addr) (nf fc ng gc nl lc nc cc : Nat) (main : Int) (nm : ByteArray) (pa re op a b c pos : Int) (v : Int) (w : World) (hre : 0 ≤ re) (hre2 : re ≤ 64) (hnf : nf ≤ 140737488355328) (hng : ng ≤ 140737488355328) (hnl : nl ≤ 140737488355328) (hnc : nc ≤ 140737488355328) (hv : Hid (btw v 0 ((nf : Int) - 1) = false)) :
    Calls Try.prog 69 #[.agg #[.slice fa nf fc, .slice ga ng gc, .slice la nl lc, .int .i64 main, .string nm, .int .i64 pa, .int .i64 re, .slice ca nc cc], .agg #[.int .i64 op, .int .i64 a, .int .i64 b, .int .i64 c, .int .i64 pos], .int .u8 102, .int .i64 v] w fun e w' => e = .returned (.bool (false)) ∧ Below w.heap.size w w' := by
  go_enter Try.func69, Try.ntmps69
  go_wp2_with fail
  have hw1 : IntKind.i64.wrap ((nf : Int) - 1) = (nf : Int) - 1 := wrapId _ (by omega) (by omega)
  refine Plan.wp_facts planO_A [(6, valF (.bool false))] (by kernel_rfl) rfl (by kernel_rfl) (by kernel_rfl) (Nat.le_refl _) ?_
  repeat (first | (apply Plan.runs_skip rfl rfl; simp only [Act.put, List.setIfInBounds_toArray, List.set_cons_zero, List.set_cons_succ]) | (apply Plan.runs_det rfl rfl; (· intro F w' hb hf; obtain ⟨hcl, hfz⟩ := bcell hb; go_simp; rfl); simp only [Act.put, List.setIfInBounds_toArray, List.set_cons_zero, List.set_cons_succ]))
  refine Plan.runs_call_val (.bool false) 44 #[.int .i64 v, .int .i64 0, .int .i64 ((nf : Int) - 1)] rfl rfl _ rfl rfl (fun F w' hb hf => by obtain ⟨hcl, hfz⟩ := bcell hb; go_simp) rfl (fun F w' hb hf => ?_) ?_
  · refine (btw_calls _ _ _ w').mono ?_
    rintro e w'' ⟨rfl, rfl⟩
    exact ⟨by rw [hv.out], Below.refl _ _⟩
  simp only [Act.put, List.setIfInBounds_toArray, List.set_cons_zero, List.set_cons_succ]
  repeat (first | (apply Plan.runs_skip rfl rfl; simp only [Act.put, List.setIfInBounds_toArray, List.set_cons_zero, List.set_cons_succ]) | (apply Plan.runs_det rfl rfl; (· intro F w' hb hf; obtain ⟨hcl, hfz⟩ := bcell hb; go_simp; rfl); simp only [Act.put, List.setIfInBounds_toArray, List.set_cons_zero, List.set_cons_succ]))
  refine Plan.runs_nil (fun F wn hb2 hf => ?_)
  have HBN := hid ((((Below.refl w.heap.size w).alloc (Nat.le_refl _) _).alloc (by simp) _).trans (hb2.mono (by simp; omega)))
  clear hf hb2
  go_wp2_with fail
  go_ret
  exact ⟨rfl, HBN.out⟩

set_option maxRecDepth 100000 in
set_option maxHeartbeats 1000000 in
theorem copnd_102b (fa ga la ca : Option Addr) (nf fc ng gc nl lc nc cc : Nat) (main : Int) (nm : ByteArray) (pa re op a b c pos : Int) (v : Int) (w : World) (hre : 0 ≤ re) (hre2 : re ≤ 64) (hnf : nf ≤ 140737488355328) (hng : ng ≤ 140737488355328) (hnl : nl ≤ 140737488355328) (hnc : nc ≤ 140737488355328) (hv : Hid (btw v 0 ((nf : Int) - 1) = true)) (hv2 : Hid (btw c 0 re = false)) :
    Calls Try.prog 69 #[.agg #[.slice fa nf fc, .slice ga ng gc, .slice la nl lc, .int .i64 main, .string nm, .int .i64 pa, .int .i64 re, .slice ca nc cc], .agg #[.int .i64 op, .int .i64 a, .int .i64 b, .int .i64 c, .int .i64 pos], .int .u8 102, .int .i64 v] w fun e w' => e = .returned (.bool (false)) ∧ Below w.heap.size w w' := by
  go_enter Try.func69, Try.ntmps69
  go_wp2_with fail
  have hw1 : IntKind.i64.wrap ((nf : Int) - 1) = (nf : Int) - 1 := wrapId _ (by omega) (by omega)
  refine Plan.wp_facts planO_B [(6, valF (.bool true)), (13, valF (.bool false))] (by kernel_rfl) rfl (by kernel_rfl) (by kernel_rfl) (Nat.le_refl _) ?_
  repeat (first | (apply Plan.runs_skip rfl rfl; simp only [Act.put, List.setIfInBounds_toArray, List.set_cons_zero, List.set_cons_succ]) | (apply Plan.runs_det rfl rfl; (· intro F w' hb hf; obtain ⟨hcl, hfz⟩ := bcell hb; go_simp; rfl); simp only [Act.put, List.setIfInBounds_toArray, List.set_cons_zero, List.set_cons_succ]))
  refine Plan.runs_call_val (.bool true) 44 #[.int .i64 v, .int .i64 0, .int .i64 ((nf : Int) - 1)] rfl rfl _ rfl rfl (fun F w' hb hf => by obtain ⟨hcl, hfz⟩ := bcell hb; go_simp) rfl (fun F w' hb hf => ?_) ?_
  · refine (btw_calls _ _ _ w').mono ?_
    rintro e w'' ⟨rfl, rfl⟩
    exact ⟨by rw [hv.out], Below.refl _ _⟩
  simp only [Act.put, List.setIfInBounds_toArray, List.set_cons_zero, List.set_cons_succ]
  repeat (first | (apply Plan.runs_skip rfl rfl; simp only [Act.put, List.setIfInBounds_toArray, List.set_cons_zero, List.set_cons_succ]) | (apply Plan.runs_det rfl rfl; (· intro F w' hb hf; obtain ⟨hcl, hfz⟩ := bcell hb; go_simp; rfl); simp only [Act.put, List.setIfInBounds_toArray, List.set_cons_zero, List.set_cons_succ]))
  refine Plan.runs_call_val (.bool false) 44 #[.int .i64 c, .int .i64 0, .int .i64 re] rfl rfl _ rfl rfl (fun F w' hb hf => by obtain ⟨hcl, hfz⟩ := bcell hb; go_simp) rfl (fun F w' hb hf => ?_) ?_
  · refine (btw_calls _ _ _ w').mono ?_
    rintro e w'' ⟨rfl, rfl⟩
    exact ⟨by rw [hv2.out], Below.refl _ _⟩
  simp only [Act.put, List.setIfInBounds_toArray, List.set_cons_zero, List.set_cons_succ]
  repeat (first | (apply Plan.runs_skip rfl rfl; simp only [Act.put, List.setIfInBounds_toArray, List.set_cons_zero, List.set_cons_succ]) | (apply Plan.runs_det rfl rfl; (· intro F w' hb hf; obtain ⟨hcl, hfz⟩ := bcell hb; go_simp; rfl); simp only [Act.put, List.setIfInBounds_toArray, List.set_cons_zero, List.set_cons_succ]))
  refine Plan.runs_nil (fun F wn hb2 hf => ?_)
  have HBN := hid ((((Below.refl w.heap.size w).alloc (Nat.le_refl _) _).alloc (by simp) _).trans (hb2.mono (by simp; omega)))
  clear hf hb2
  go_wp2_with fail
  go_ret
  exact ⟨rfl, HBN.out⟩

set_option maxRecDepth 100000 in
set_option maxHeartbeats 1000000 in
theorem copnd_102c (ga la ca : Option Addr) (nf fc ng gc nl lc nc cc : Nat) (main : Int) (nm : ByteArray) (pa re op a b c pos : Int)  (w : World) (hre : 0 ≤ re) (hre2 : re ≤ 64) (hnf : nf ≤ 140737488355328) (hng : ng ≤ 140737488355328) (hnl : nl ≤ 140737488355328) (hnc : nc ≤ 140737488355328) (fb fo k : Nat) (x : Int) (hk : k < nf) (hcb : fb < w.heap.size) (hcb1 : fb < w.heap.size + 1) (hcb2 : fb < w.heap.size + 1 + 1) (q0 : w.cell? ⟨fb, fo + k * 4 + 1, none⟩ = some (.int .i64 x)) (hw3 : IntKind.i64.wrap (re - c) = re - c) (hv : Hid (btw k 0 ((nf : Int) - 1) = true)) (hv2 : Hid (btw c 0 re = true)) :
    Calls Try.prog 69 #[.agg #[.slice (some ⟨fb, fo, none⟩) nf fc, .slice ga ng gc, .slice la nl lc, .int .i64 main, .string nm, .int .i64 pa, .int .i64 re, .slice ca nc cc], .agg #[.int .i64 op, .int .i64 a, .int .i64 b, .int .i64 c, .int .i64 pos], .int .u8 102, .int .i64 k] w fun e w' => e = .returned (.bool (decide (x ≤ re - c))) ∧ Below w.heap.size w w' := by
  go_enter Try.func69, Try.ntmps69
  go_wp2_with fail
  have hw1 : IntKind.i64.wrap ((nf : Int) - 1) = (nf : Int) - 1 := wrapId _ (by omega) (by omega)
  refine Plan.wp_facts planO_C [(6, valF (.bool true)), (13, valF (.bool true))] (by kernel_rfl) rfl (by kernel_rfl) (by kernel_rfl) (Nat.le_refl _) ?_
  repeat (first | (apply Plan.runs_skip rfl rfl; simp only [Act.put, List.setIfInBounds_toArray, List.set_cons_zero, List.set_cons_succ]) | (apply Plan.runs_det rfl rfl; (· intro F w' hb hf; obtain ⟨hcl, hfz⟩ := bcell hb; go_simp; rfl); simp only [Act.put, List.setIfInBounds_toArray, List.set_cons_zero, List.set_cons_succ]))
  refine Plan.runs_call_val (.bool true) 44 #[.int .i64 k, .int .i64 0, .int .i64 ((nf : Int) - 1)] rfl rfl _ rfl rfl (fun F w' hb hf => by obtain ⟨hcl, hfz⟩ := bcell hb; go_simp) rfl (fun F w' hb hf => ?_) ?_
  · refine (btw_calls _ _ _ w').mono ?_
    rintro e w'' ⟨rfl, rfl⟩
    exact ⟨by rw [hv.out], Below.refl _ _⟩
  simp only [Act.put, List.setIfInBounds_toArray, List.set_cons_zero, List.set_cons_succ]
  repeat (first | (apply Plan.runs_skip rfl rfl; simp only [Act.put, List.setIfInBounds_toArray, List.set_cons_zero, List.set_cons_succ]) | (apply Plan.runs_det rfl rfl; (· intro F w' hb hf; obtain ⟨hcl, hfz⟩ := bcell hb; go_simp; rfl); simp only [Act.put, List.setIfInBounds_toArray, List.set_cons_zero, List.set_cons_succ]))
  refine Plan.runs_call_val (.bool true) 44 #[.int .i64 c, .int .i64 0, .int .i64 re] rfl rfl _ rfl rfl (fun F w' hb hf => by obtain ⟨hcl, hfz⟩ := bcell hb; go_simp) rfl (fun F w' hb hf => ?_) ?_
  · refine (btw_calls _ _ _ w').mono ?_
    rintro e w'' ⟨rfl, rfl⟩
    exact ⟨by rw [hv2.out], Below.refl _ _⟩
  simp only [Act.put, List.setIfInBounds_toArray, List.set_cons_zero, List.set_cons_succ]
  repeat (first | (apply Plan.runs_skip rfl rfl; simp only [Act.put, List.setIfInBounds_toArray, List.set_cons_zero, List.set_cons_succ]) | (apply Plan.runs_det rfl rfl; (· intro F w' hb hf; obtain ⟨hcl, hfz⟩ := bcell hb; go_simp; rfl); simp only [Act.put, List.setIfInBounds_toArray, List.set_cons_zero, List.set_cons_succ]))
  refine Plan.runs_nil (fun F wn hb2 hf => ?_)
  have HBN := hid ((((Below.refl w.heap.size w).alloc (Nat.le_refl _) _).alloc (by simp) _).trans (hb2.mono (by simp; omega)))
  clear hf hb2
  go_wp2_with fail
  go_ret
  exact ⟨rfl, HBN.out⟩

end Go.Proofs.Ytealeofgfgbheaa
