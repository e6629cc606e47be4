/-
  The law LatticeSolves in plain words: the greatest number that reaches a node.
-/
import Derived.Test.YtnbffkcnhphdnaaZAlg42
namespace Go.Proofs.Ytnbffkcnhphdnaa
set_option linter.unusedVariables false
set_option linter.unusedSimpArgs false
open Go.RowKit

def mostI (a b : Int) : Int := if b < a then a else b
def halfI (i : Nat) (x : Int) : Int := x - x.tmod 2 - (i : Int) % 3
theorem tm2 (x : Int) : (0 ≤ x ∧ x.tmod 2 = x - 2 * (x / 2)) ∨ (x < 0 ∧ x.tmod 2 = x + 2 * ((-x) / 2)) := by
  by_cases h : 0 ≤ x
  · refine .inl ⟨h, ?_⟩
    rw [Int.tmod_eq_emod_of_nonneg h]
    omega
  · refine .inr ⟨by omega, ?_⟩
    have h1 : x = -(-x) := by omega
    rw [h1, Int.neg_tmod, Int.tmod_eq_emod_of_nonneg (by omega)]
    omega
theorem tm3 (i : Nat) : 0 ≤ (i : Int) % 3 ∧ (i : Int) % 3 ≤ 2 := by
  omega
theorem halfI_mono (i : Nat) {x y : Int} (h : x ≤ y) : halfI i x ≤ halfI i y := by
  unfold halfI
  have h1 := tm2 x
  have h2 := tm2 y
  generalize x.tmod 2 = a at *
  generalize y.tmod 2 = b at *
  generalize (i : Int) % 3 = c at *
  omega
theorem halfI_le (i : Nat) {x : Int} (h : x ≤ 1000) : halfI i x ≤ 1000 := by
  unfold halfI
  have h1 := tm2 x
  have h2 := tm3 i
  generalize x.tmod 2 = a at *
  generalize (i : Int) % 3 = c at *
  omega
theorem halfI_bnd (i : Nat) {x : Int} (h : -1000 ≤ x ∧ x ≤ 1000) : (-1 ≤ x.tmod 2 ∧ x.tmod 2 ≤ 1) ∧ (0 ≤ (i : Int) % 3 ∧ (i : Int) % 3 ≤ 2) := by
  have h1 := tm2 x
  have h2 := tm3 i
  generalize x.tmod 2 = a at *
  generalize (i : Int) % 3 = c at *
  omega

def OkN (x : Int) : Prop := -1000 ≤ x ∧ x ≤ 1000
def lack (u : List Int) : Nat := (u.map fun x => (1000 - x).toNat).sum
theorem lack_set : ∀ (u : List Int) (i : Nat) (x : Int), i < u.length → lack (u.set i x) + (1000 - nth u i).toNat = lack u + (1000 - x).toNat
  | [], i, x, h => by simp at h
  | y :: u, 0, x, h => by simp [lack, nth]; omega
  | y :: u, i + 1, x, h => by
    have := lack_set u i x (by simpa using h)
    simp only [lack, nth, List.set_cons_succ, List.map_cons, List.sum_cons, List.getD_cons_succ] at *
    omega
theorem lack_le : ∀ (u : List Int), (∀ i, i < u.length → OkN (nth u i)) → lack u ≤ 2000 * u.length
  | [], h => by simp [lack]
  | y :: u, h => by
    have h1 := h 0 (by simp)
    have h2 := lack_le u fun i hi => h (i + 1) (by simpa using hi)
    simp only [lack, nth, OkN, List.map_cons, List.sum_cons, List.getD_cons_zero, List.length_cons] at *
    omega

section
variable {n : Nat} {E : List Edg} {s0 : List Int}
theorem steps_rng (h0 : s0.length = n) (hs0 : ∀ i, i < n → OkN (nth s0 i)) {u : List Int} (h : Steps n E mostI halfI s0 u) : u.length = n ∧ ∀ i, i < n → OkN (nth u i) := by
  induction h with
  | refl => exact ⟨h0, hs0⟩
  | step i _ hi hin ih =>
    have hb := (insideB_iff n _).1 hin
    refine ⟨by simpa using ih.1, fun j hj => ?_⟩
    rw [nth_setV _ _ _ _ (by rw [ih.1]; omega)]
    split
    · have h1 := ih.2 (nth E i).dst.toNat (by omega)
      have h2 := halfI_le i (ih.2 (nth E i).src.toNat (by omega)).2
      unfold mostI OkN at *
      split <;> omega
    · exact ih.2 j hj
theorem alg_most (h0 : s0.length = n) (hs0 : ∀ i, i < n → OkN (nth s0 i)) : Alg n E mostI halfI (fun _ => True) s0 lack := by
  refine ⟨fun _ _ _ _ => trivial, fun _ _ _ _ => trivial, fun a t y _ _ _ h => ?_, fun a y _ _ => ?_, h0, fun _ _ => trivial, fun u i hu hi hin hsat => ?_⟩
  · unfold mostI at *
    split at h <;> split <;> (try split) <;> omega
  · unfold mostI
    split <;> (try split) <;> omega
  · have hr := steps_rng h0 hs0 hu
    have hb := (insideB_iff n _).1 hin
    have h1 := lack_set u (nth E i).dst.toNat (mostI (nth u (nth E i).dst.toNat) (halfI i (nth u (nth E i).src.toNat))) (by rw [hr.1]; omega)
    have h2 := hr.2 (nth E i).dst.toNat (by omega)
    have h3 := halfI_le i (hr.2 (nth E i).src.toNat (by omega)).2
    unfold Sat at hsat
    unfold mostI OkN at *
    split at hsat
    · exact absurd rfl hsat
    · rename_i h4
      rw [if_neg h4] at h1 ⊢
      omega
theorem steps_ge (h0 : s0.length = n) {u : List Int} (h : Steps n E mostI halfI s0 u) : u.length = n ∧ ∀ i, i < n → nth s0 i ≤ nth u i := by
  induction h with
  | refl => exact ⟨h0, fun _ _ => Int.le_refl _⟩
  | step i _ hi hin ih =>
    have hb := (insideB_iff n _).1 hin
    refine ⟨by simpa using ih.1, fun j hj => ?_⟩
    rw [nth_setV _ _ _ _ (by rw [ih.1]; omega)]
    split
    · rename_i e
      have := ih.2 j hj
      rw [← e] at this ⊢
      unfold mostI
      split <;> omega
    · exact ih.2 j hj
theorem steps_below (h0 : s0.length = n) {V : List Int} (hV : ∀ i, i < n → nth s0 i ≤ nth V i) (hc : ClosedV n E mostI halfI V) {u : List Int} (h : Steps n E mostI halfI s0 u) : u.length = n ∧ ∀ i, i < n → nth u i ≤ nth V i := by
  induction h with
  | refl => exact ⟨h0, hV⟩
  | step i _ hi hin ih =>
    have hb := (insideB_iff n _).1 hin
    refine ⟨by simpa using ih.1, fun j hj => ?_⟩
    rw [nth_setV _ _ _ _ (by rw [ih.1]; omega)]
    split
    · rename_i e
      have h1 := ih.2 (nth E i).dst.toNat (by omega)
      have h2 := halfI_mono i (ih.2 (nth E i).src.toNat (by omega))
      have h3 := hc i hi hin
      rw [← e]
      unfold mostI at *
      split at h3 <;> split <;> omega
    · exact ih.2 j hj
theorem solved_unique (h0 : s0.length = n) {u V : List Int} (hu : Steps n E mostI halfI s0 u) (hv : Steps n E mostI halfI s0 V) (hcu : ClosedV n E mostI halfI u) (hcv : ClosedV n E mostI halfI V) : u = V := by
  have h1 := steps_below h0 (steps_ge h0 hv).2 hcv hu
  have h2 := steps_below h0 (steps_ge h0 hu).2 hcu hv
  refine ext_nth _ _ (by rw [h1.1, h2.1]) fun i hi => ?_
  have := h1.2 i (by omega)
  have := h2.2 i (by omega)
  omega
end

end Go.Proofs.Ytnbffkcnhphdnaa
