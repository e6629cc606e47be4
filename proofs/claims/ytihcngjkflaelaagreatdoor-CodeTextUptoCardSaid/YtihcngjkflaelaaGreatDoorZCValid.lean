/-
  Whether a program is valid, as package code checks it: the early answers.
-/
import Derived.Test.YtihcngjkflaelaaGreatDoorZCFunc
import Derived.Test.YtihcngjkflaelaaGreatDoorZCLay
import Derived.Test.YtihcngjkflaelaaGreatDoorZUnique
namespace Go.Proofs.YtihcngjkflaelaaGreatDoor
set_option linter.unusedVariables false
set_option linter.unusedSimpArgs false
open Go.RowKit

set_option maxRecDepth 100000 in
set_option maxHeartbeats 4000000 in
theorem cvalid_0 (fa ga la : Option Addr) (nf fc ng gc nl lc : Nat) (main : Int) (w : World) (hnf : nf ≤ 140737488355328) (hng : ng ≤ 140737488355328) (hnl : nl ≤ 140737488355328) (h : ¬ (nf ≤ 64 ∧ ng ≤ 64 ∧ nl ≤ 32)) :
    Calls Tryz.prog 11 #[.agg #[.slice fa nf fc, .slice ga ng gc, .slice la nl lc, .int .i64 main]] w fun e w' => e = .returned (.bool false) ∧ Below w.heap.size w w' := by
  by_cases h1 : nf ≤ 64
  · have g1 : decide (64 < (nf : Int)) = false := decide_eq_false (by omega)
    by_cases h2 : ng ≤ 64
    · have g2 : decide (64 < (ng : Int)) = false := decide_eq_false (by omega)
      have g3 : decide (32 < (nl : Int)) = true := decide_eq_true (by omega)
      clear h
      go_enter Tryz.func11, Tryz.ntmps11
      go_wp2_with fail
      go_ret
      exact ⟨rfl, (Below.refl _ _).alloc (Nat.le_refl _) _⟩
    · have g2 : decide (64 < (ng : Int)) = true := decide_eq_true (by omega)
      clear h
      go_enter Tryz.func11, Tryz.ntmps11
      go_wp2_with fail
      go_ret
      exact ⟨rfl, (Below.refl _ _).alloc (Nat.le_refl _) _⟩
  · have g1 : decide (64 < (nf : Int)) = true := decide_eq_true (by omega)
    clear h
    go_enter Tryz.func11, Tryz.ntmps11
    go_wp2_with fail
    go_ret
    exact ⟨rfl, (Below.refl _ _).alloc (Nat.le_refl _) _⟩

set_option maxRecDepth 100000 in
set_option maxHeartbeats 4000000 in
theorem cvalid_1 (fa ga la : Option Addr) (nf fc ng gc nl lc : Nat) (main : Int) (w : World) (h1 : nf ≤ 64) (h2 : ng ≤ 64) (h3 : nl ≤ 32) (hm : btw main 0 ((nf : Int) - 1) = false) :
    Calls Tryz.prog 11 #[.agg #[.slice fa nf fc, .slice ga ng gc, .slice la nl lc, .int .i64 main]] w fun e w' => e = .returned (.bool false) ∧ Below w.heap.size w w' := by
  have g1 : decide (64 < (nf : Int)) = false := decide_eq_false (by omega)
  have g2 : decide (64 < (ng : Int)) = false := decide_eq_false (by omega)
  have g3 : decide (32 < (nl : Int)) = false := decide_eq_false (by omega)
  go_enter Tryz.func11, Tryz.ntmps11
  go_wp2_with (go_at_call 32; refine (btw_calls _ _ _ _).mono ?_; rintro e w1 ⟨rfl, rfl⟩)
  go_ret
  exact ⟨rfl, (Below.refl _ _).alloc (Nat.le_refl _) _⟩

set_option maxRecDepth 100000 in
set_option maxHeartbeats 4000000 in
theorem cvalid_2 (ga la : Option Addr) (fb fo nf fc ng gc nl lc m : Nat) (x : Int) (w : World) (h1 : nf ≤ 64) (h2 : ng ≤ 64) (h3 : nl ≤ 32) (hm : btw m 0 ((nf : Int) - 1) = true) (hmn : m < nf) (hb : fb < w.heap.size) (hb1 : fb < w.heap.size + 1) (q : w.cell? ⟨fb, fo + m * 4 + 1, none⟩ = some (.int .i64 x)) (hx : (x != 0) = true) :
    Calls Tryz.prog 11 #[.agg #[.slice (some ⟨fb, fo, none⟩) nf fc, .slice ga ng gc, .slice la nl lc, .int .i64 m]] w fun e w' => e = .returned (.bool false) ∧ Below w.heap.size w w' := by
  have g1 : decide (64 < (nf : Int)) = false := decide_eq_false (by omega)
  have g2 : decide (64 < (ng : Int)) = false := decide_eq_false (by omega)
  have g3 : decide (32 < (nl : Int)) = false := decide_eq_false (by omega)
  have hmn2 : (m : Int) < nf := by omega
  go_enter Tryz.func11, Tryz.ntmps11
  go_wp2_with (go_at_call 32; refine (btw_calls _ _ _ _).mono ?_; rintro e w1 ⟨rfl, rfl⟩)
  go_ret
  exact ⟨rfl, (Below.refl _ _).alloc (Nat.le_refl _) _⟩

end Go.Proofs.YtihcngjkflaelaaGreatDoor
