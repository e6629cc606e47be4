/-
  Package live's In.
-/
import Derived.Test.YteiohnfmlabelaaZCValid2
import Derived.Test.YteiohnfmlabelaaZLvSolve
namespace Go.Proofs.Yteiohnfmlabelaa
set_option linter.unusedVariables false
set_option linter.unusedSimpArgs false
open Go.RowKit

/-- A valid program has this function. -/
def thereB (p : Prg) (fn : Int) : Bool := decide (0 ≤ fn) && (decide (fn < p.funcs.length) && validB p)

set_option maxHeartbeats 2000000 in
theorem there_calls (lo : Nat) (vf vg vl : Value) (p : Prg) (fn : Int) (w : World) (hp : ProgAt lo w vf vg vl p) :
    Calls Try.prog 49 #[.agg #[vf, vg, vl, .int .i64 p.main], .int .i64 fn] w fun e w' => e = .returned (.bool (thereB p fn)) ∧ Below w.heap.size w w' := by
  have HP := hid hp
  obtain ⟨fa, fc, fb, fo, S, rfl, p1, _, _, _, _, _, k1, _, m1, n1⟩ := hp.funcs.open
  obtain ⟨ga, gc, _, _, rfl, _⟩ := hp.globs.open
  obtain ⟨la, lc, _, _, _, rfl, _⟩ := hp.lays.open
  clear hp p1 k1
  by_cases h1 : 0 ≤ fn
  · by_cases h2 : fn < p.funcs.length
    · have HE := hid (show thereB p fn = validB p by unfold thereB; rw [decide_eq_true h1, decide_eq_true h2]; rfl)
      go_enter Try.func49, Try.ntmps49
      have HB := hid (show Below w.heap.size w (w.alloc (.cells #[.slice fa p.funcs.length fc, .slice ga p.globals.length gc, .slice la p.layouts.length lc, .int .i64 p.main] 26)) from (Below.refl _ _).alloc (Nat.le_refl _) _)
      go_wp2_with (
        go_at_call 13
        refine (cvalid_calls lo _ _ _ p _ (HP.out.below HB.out)).mono ?_
        rintro e w1 ⟨rfl, hb1⟩)
      go_ret
      exact ⟨by rw [HE.out]; rfl, HB.out.trans (hb1.mono (by simp))⟩
    · have HE := hid (show thereB p fn = false by unfold thereB; rw [decide_eq_false h2]; simp)
      go_enter Try.func49, Try.ntmps49
      go_wp2_with fail
      go_ret
      exact ⟨by rw [HE.out]; rfl, (Below.refl _ _).alloc (Nat.le_refl _) _⟩
  · have HE := hid (show thereB p fn = false by unfold thereB; rw [decide_eq_false h1]; rfl)
    go_enter Try.func49, Try.ntmps49
    go_wp2_with fail
    go_ret
    exact ⟨by rw [HE.out]; rfl, (Below.refl _ _).alloc (Nat.le_refl _) _⟩

/-- The live registers before each instruction: none if there is no such function. -/
def InIs (p : Prg) (fn : Int) (L : List (List Int)) : Prop := (thereB p fn = false ∧ L = []) ∨ (thereB p fn = true ∧ IsLive p fn.toNat (nth p.funcs fn.toNat).code.length L)
theorem there_get {p : Prg} {fn : Int} (h : thereB p fn = true) : 0 ≤ fn ∧ fn < p.funcs.length ∧ validB p = true := by
  unfold thereB at h
  simp only [Bool.and_eq_true, decide_eq_true_eq] at h
  exact h


end Go.Proofs.Yteiohnfmlabelaa
