import Derived.Test.YtiaajdckhedofaaROrder
import Derived.Test.YtiaajdckhedofaaDom
import Derived.Test.YtiaajdckhedofaaReach
namespace Go.Proofs.Ytiaajdckhedofaa
set_option linter.unusedVariables false
set_option linter.unusedSimpArgs false
open Go.RowKit

/-- The code of the document's example. -/
def exL : List Ins := [⟨1, 0, 0, 0, 0⟩, ⟨17, 0, 0, 4, 0⟩, ⟨1, 0, 0, 0, 0⟩, ⟨16, 0, 0, 5, 0⟩, ⟨1, 0, 0, 0, 0⟩, ⟨30, -1, 0, 0, 0⟩]

theorem ex_next0 : nextL exL (0 : Nat) = [1] := by decide
theorem ex_next1 : nextL exL (1 : Nat) = [2, 4] := by decide
theorem ex_next2 : nextL exL (2 : Nat) = [3] := by decide
theorem ex_next3 : nextL exL (3 : Nat) = [5] := by decide
theorem ex_next4 : nextL exL (4 : Nat) = [5] := by decide
theorem ex_next5 : nextL exL (5 : Nat) = [] := by decide
theorem ex_jok : Jok exL := by
  refine ⟨by decide, by decide, ?_, ?_⟩
  · intro k hk
    have hk6 : k < 6 := hk
    rcases k with _ | _ | _ | _ | _ | _ | k
    · rw [show ((0 : Nat) : Int) = (0 : Nat) from rfl, ex_next0]; decide
    · rw [ex_next1]; decide
    · rw [ex_next2]; decide
    · rw [ex_next3]; decide
    · rw [ex_next4]; decide
    · rw [ex_next5]; decide
    · omega
  · intro i hi hj
    have hi6 : i < 6 := hi
    rcases i with _ | _ | _ | _ | _ | _ | i
    all_goals first | (exact absurd hj (by decide)) | decide | omega
theorem ex_bnd : bnd exL exL.length = [(0, 2), (2, 4), (4, 5), (5, 6)] := by decide
theorem ex_nums0 : nums exL (0, 2) = [1, 2] := by decide
theorem ex_nums1 : nums exL (2, 4) = [3] := by decide
theorem ex_nums2 : nums exL (4, 5) = [3] := by decide
theorem ex_nums3 : nums exL (5, 6) = [] := by decide
theorem ex_blks : blksL exL = [⟨0, 2, [1, 2]⟩, ⟨2, 4, [3]⟩, ⟨4, 5, [3]⟩, ⟨5, 6, []⟩] := by
  unfold blksL
  rw [ex_bnd]
  simp only [List.map_cons, List.map_nil, blkOf, ex_nums0, ex_nums1, ex_nums2, ex_nums3, ← foldl_setL]
  rfl
theorem ex_order : orderL exL = [0, 2, 1, 3] := by
  unfold orderL nxL
  rw [ex_blks]
  decide
theorem ex_path0 (wo : Int) (h : wo ≠ 0) : Path exL wo 0 := .start h (by decide)
theorem ex_path1 (wo : Int) (h : wo ≠ 0) (h1 : wo ≠ 1) : Path exL wo 1 := .step 0 1 (ex_path0 wo h) (by rw [ex_next0]; decide) (fun e => h1 e.symm)
theorem ex_path2 (wo : Int) (h : wo ≠ 0) (h1 : wo ≠ 1) (h2 : wo ≠ 2) : Path exL wo 2 := .step 1 2 (ex_path1 wo h h1) (by rw [ex_next1]; decide) (fun e => h2 e.symm)
theorem ex_path4 (wo : Int) (h : wo ≠ 0) (h1 : wo ≠ 1) (h4 : wo ≠ 4) : Path exL wo 4 := .step 1 4 (ex_path1 wo h h1) (by rw [ex_next1]; decide) (fun e => h4 e.symm)
theorem ex_path5 (wo : Int) (h : wo ≠ 0) (h1 : wo ≠ 1) (h4 : wo ≠ 4) (h5 : wo ≠ 5) : Path exL wo 5 := .step 4 5 (ex_path4 wo h h1 h4) (by rw [ex_next4]; decide) (fun e => h5 e.symm)
theorem ex_not5 : ¬ Path exL 1 5 := by
  have : ∀ j, Path exL 1 j → j = 0 := by
    intro j h
    induction h with
    | start => rfl
    | step i j _ hx hne ih =>
      subst ih
      rw [ex_next0] at hx
      simp at hx
      exact (hne hx).elim
  intro h
  have := this 5 h
  omega
theorem ex_dom1 : domL exL 1 5 = true := by
  unfold domL
  rw [if_pos (by decide)]
  show domN exL 1 5 = true
  unfold domN
  rw [show headN exL 1 = 1 from by decide, show headN exL 5 = 5 from by decide, reachB_at _ _ _ (by decide), reachB_at _ _ _ (by decide), reachB_at _ _ _ (by decide)]
  have a := ex_path1 (-1) (by decide) (by decide)
  have b := ex_path5 (-1) (by decide) (by decide) (by decide) (by decide)
  have c : ¬ Path exL ((1 : Nat) : Int) 5 := ex_not5
  simp [a, b]; exact c
theorem ex_dom2 : domL exL 2 5 = false := by
  unfold domL
  rw [if_pos (by decide)]
  show domN exL 2 5 = false
  unfold domN
  rw [show headN exL 2 = 2 from by decide, show headN exL 5 = 5 from by decide, reachB_at _ _ _ (by decide), reachB_at _ _ _ (by decide), reachB_at _ _ _ (by decide)]
  have c : Path exL ((2 : Nat) : Int) 5 := ex_path5 2 (by decide) (by decide) (by decide) (by decide)
  simp; exact fun _ _ => c

end Go.Proofs.Ytiaajdckhedofaa
