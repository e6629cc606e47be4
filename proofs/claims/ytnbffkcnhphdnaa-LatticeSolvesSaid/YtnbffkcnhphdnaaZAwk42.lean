/-
  The example of the document on set equations, walked.
-/
import Derived.Test.YtnbffkcnhphdnaaZRMay42
namespace Go.Proofs.Ytnbffkcnhphdnaa
set_option linter.unusedVariables false
set_option linter.unusedSimpArgs false
open Go.RowKit

def exE42 : List Edg := [⟨0, 1, [], [7]⟩, ⟨1, 0, [7], []⟩]
theorem setL_fold42 (l : List Int) : setL l = l.foldl withL [] := (foldl_setL l).symm
theorem mayAt_f (n : Nat) (E : List Edg) (S x : List (List Int)) (i : Nat) : mayAt n E S x i = E.foldl (fun acc e => if insideB n e = true ∧ e.dst = i then (acc ++ (minusL (nth x e.src.toNat) e.kill ++ e.gen.foldl withL []).foldl withL []).foldl withL [] else acc) (if i < S.length then (nth S i).foldl withL [] else []) := by
  unfold mayAt may0
  rw [setL_fold42]
  congr 1
  funext acc e
  unfold mayAcc thru unionL
  simp only [setL_fold42]
theorem mustAt_f (n : Nat) (E : List Edg) (S : List (List Int)) (all : List Int) (x : List (List Int)) (i : Nat) : mustAt n E S all x i = E.foldl (fun acc e => if insideB n e = true ∧ e.dst = i then meetL acc ((minusL (nth x e.src.toNat) e.kill ++ e.gen.foldl withL []).foldl withL []) else acc) (if i < S.length then meetL (all.foldl withL []) (nth S i) else all.foldl withL []) := by
  unfold mustAt must0
  rw [setL_fold42]
  congr 1
  funext acc e
  unfold mustAcc thru unionL
  simp only [setL_fold42]
theorem ex42_may1 : mayStep 2 exE42 [[1], []] (List.replicate 2 []) = [[1], [7]] := by
  show (List.range 2).map (fun i => mayAt 2 _ _ _ i) = _
  simp only [mayAt_f]
  decide +kernel
theorem ex42_may2 : mayStep 2 exE42 [[1], []] [[1], [7]] = [[1], [1, 7]] := by
  show (List.range 2).map (fun i => mayAt 2 _ _ _ i) = _
  simp only [mayAt_f]
  decide +kernel
theorem ex42_may3 : mayStep 2 exE42 [[1], []] [[1], [1, 7]] = [[1], [1, 7]] := by
  show (List.range 2).map (fun i => mayAt 2 _ _ _ i) = _
  simp only [mayAt_f]
  decide +kernel
theorem ex42_may : IsMay 2 exE42 [[1], []] [[1], [1, 7]] := ⟨⟨2, by rw [mayIter, mayIter, mayIter, ex42_may1, ex42_may2]⟩, ex42_may3⟩
theorem ex42_must0 : List.replicate 2 (setL [1, 7]) = [[1, 7], [1, 7]] := by
  simp only [setL_fold42]
  decide +kernel
theorem ex42_must1 : mustStep 2 exE42 [] [1, 7] [[1, 7], [1, 7]] = [[1], [1, 7]] := by
  show (List.range 2).map (fun i => mustAt 2 _ _ _ _ i) = _
  simp only [mustAt_f]
  decide +kernel
theorem ex42_must2 : mustStep 2 exE42 [] [1, 7] [[1], [1, 7]] = [[1], [1, 7]] := by
  show (List.range 2).map (fun i => mustAt 2 _ _ _ _ i) = _
  simp only [mustAt_f]
  decide +kernel
theorem ex42_must : IsMust 2 exE42 [] [1, 7] [[1], [1, 7]] := ⟨⟨1, by rw [mustIter, mustIter, ex42_must0, ex42_must1]⟩, ex42_must2⟩
theorem ex42_set : setL [7, 1, 7] = [1, 7] := by rw [setL_fold42]; decide +kernel
theorem ex42_okE : EOk exE42 := ⟨by decide, by decide⟩
theorem ex42_ok : GOk 2 exE42 [[1], []] [1, 7] := ⟨by decide, ex42_okE, by decide, by decide, by decide⟩
theorem ex42_ok2 : GOk 2 exE42 [] [1, 7] := ⟨by decide, ex42_okE, by decide, by decide, by decide⟩

noncomputable def planA5 : Plan := mkPlan (regionOf Try.f11 5) [(2, .new), (6, .new), (9, .new), (10, .new), (14, .new)] []

set_option maxRecDepth 100000 in
set_option maxHeartbeats 8000000 in
theorem awake42_calls (w : World) : Calls Try.prog 11 #[] w fun e w' => e = .returned (.bool true) ∧ Below w.heap.size w w' := by
  go_enter Try.func11, Try.ntmps11
  go_wp2_with fail
  generalize hW : World.alloc _ _ = W
  have hbW : Below w.heap.size w W := by rw [← hW]; exact ((((((Below.refl _ _).alloc (Nat.le_refl _) _).alloc (by simp) _).alloc (by simp; omega) _).alloc (by simp; omega) _).alloc (by simp; omega) _).alloc (by simp; omega) _
  have i0 : IntsAt w.heap.size W (.slice (some ⟨w.heap.size, 0, none⟩) 1 1) [7] := by
    rw [← hW]
    exact ((((((OwnE.lit intE _ w.heap.size 3 [7] _ w.heap.size 1 (by simp) (by omega) rfl rfl (by simp)).alloc _).alloc _).alloc _).alloc _).alloc _).sl (Nat.le_refl _) (by simp)
  have i1 : IntsAt w.heap.size W (.slice (some ⟨w.heap.size + 1, 0, none⟩) 1 1) [7] := by
    rw [← hW]
    exact (((((OwnE.lit intE _ w.heap.size 3 [7] _ (w.heap.size + 1) 1 (by simp) (by omega) rfl rfl (by simp)).alloc _).alloc _).alloc _).alloc _).sl (Nat.le_refl _) (by simp)
  have hE : EdgesAt w.heap.size W (.slice (some ⟨w.heap.size + 1 + 1, 0, none⟩) 2 2) exE42 := by
    refine ⟨[(⟨0, 1, [], [7]⟩, ⟨none, 0, 0⟩, ⟨some ⟨w.heap.size, 0, none⟩, 1, 1⟩), (⟨1, 0, [7], []⟩, ⟨some ⟨w.heap.size + 1, 0, none⟩, 1, 1⟩, ⟨none, 0, 0⟩)], rfl, ?_, fun i hi => ?_⟩
    · rw [← hW]
      exact ((((OwnE.lit edgE _ w.heap.size 48 _ _ (w.heap.size + 1 + 1) 2 (by simp) (by omega) rfl rfl (by simp)).alloc _).alloc _).alloc _).sl (Nat.le_refl _) (by simp)
    · match i, hi with
      | 0, _ => exact ⟨SlE.nil _ _ _, i0⟩
      | 1, _ => exact ⟨i1, SlE.nil _ _ _⟩
  have i3 : IntsAt w.heap.size W (.slice (some ⟨w.heap.size + 1 + 1 + 1, 0, none⟩) 1 1) [1] := by
    rw [← hW]
    exact (((OwnE.lit intE _ w.heap.size 3 [1] _ (w.heap.size + 1 + 1 + 1) 1 (by simp) (by omega) rfl rfl (by simp)).alloc _).alloc _).sl (Nat.le_refl _) (by simp)
  have i4 : IntsAt w.heap.size W (.slice (some ⟨w.heap.size + 1 + 1 + 1 + 1, 0, none⟩) 0 0) [] := by
    rw [← hW]
    exact ((OwnE.lit intE _ w.heap.size 3 [] _ (w.heap.size + 1 + 1 + 1 + 1) 0 (by simp) (by omega) rfl rfl (by simp)).alloc _).sl (Nat.le_refl _) (by simp)
  have hS : LaysAt w.heap.size W (.slice (some ⟨w.heap.size + 1 + 1 + 1 + 1 + 1, 0, none⟩) 2 2) [[1], []] := by
    refine ⟨[⟨some ⟨w.heap.size + 1 + 1 + 1, 0, none⟩, 1, 1⟩, ⟨some ⟨w.heap.size + 1 + 1 + 1 + 1, 0, none⟩, 0, 0⟩], rfl, ?_, fun i hi => ?_⟩
    · rw [← hW]
      exact (OwnE.lit rowE _ w.heap.size 34 _ _ (w.heap.size + 1 + 1 + 1 + 1 + 1) 2 (by simp) (by omega) rfl rfl (by simp)).sl (Nat.le_refl _) (by simp)
    · match i, hi with
      | 0, _ => exact i3
      | 1, _ => exact i4
  have HBW := hid hbW
  have HE := hid hE
  have HS := hid hS
  clear hW hbW i0 i1 hE i3 i4 hS
  refine (may_calls _ _ _ _ 2 exE42 [[1], []] [1, 7] W HE.out HS.out ex42_ok (by omega)).mono ?_
  rintro e w1 ⟨v1, X, rfl, hX, hv1, hb1⟩
  have e1 := hX.unique ex42_may
  subst e1
  have HV1 := hid hv1
  have HB1 := hid (bvia HBW.out hb1)
  have HE1 := hid (HE.out.below hb1)
  clear hX hv1 hb1 HS HE
  go_wp2_with fail
  have hbx : Below w1.heap.size w1 (w1.alloc (.cells #[.int .i64 1, .int .i64 7] 3)) := (Below.refl _ _).alloc (Nat.le_refl _) _
  refine (must_calls _ _ _ _ _ _ 2 exE42 [] [1, 7] [1, 7] _ (HE1.out.below hbx) (show LaysAt w1.heap.size _ (.slice none 0 0) [] from ⟨[], rfl, SlE.nil _ _ _, fun i hi => by simp at hi⟩) (show IntsAt w1.heap.size _ _ [1, 7] from (OwnE.lit intE _ w1.heap.size 3 [1, 7] _ w1.heap.size 2 (by simp) (by omega) rfl rfl (by simp)).sl (Nat.le_refl _) (by simp)) ex42_ok2 (fun r h => h) (by simp) (by omega)).mono ?_
  rintro e w2 ⟨v2, X, rfl, hX, hv2, hb2⟩
  have e2 := hX.unique ex42_must
  subst e2
  have HV2 := hid hv2
  have HB2 := hid (bvia HB1.out (bvia hbx hb2))
  have HV1b := hid (HV1.out.keep (Keep.below (bvia hbx hb2)))
  clear hX hv2 hb2 hbx HE1 HV1
  go_wp2_with fail
  generalize hW : World.alloc _ _ = W2
  have hbW : Below w2.heap.size w2 W2 := by rw [← hW]; exact (((Below.refl _ _).alloc (Nat.le_refl _) _).alloc (by simp) _).alloc (by simp; omega) _
  have i0 : IntsAt w2.heap.size W2 (.slice (some ⟨w2.heap.size, 0, none⟩) 1 1) [1] := by
    rw [← hW]
    exact (((OwnE.lit intE _ w2.heap.size 3 [1] _ w2.heap.size 1 (by simp) (by omega) rfl rfl (by simp)).alloc _).alloc _).sl (Nat.le_refl _) (by simp)
  have i1 : IntsAt w2.heap.size W2 (.slice (some ⟨w2.heap.size + 1, 0, none⟩) 2 2) [1, 7] := by
    rw [← hW]
    exact ((OwnE.lit intE _ w2.heap.size 3 [1, 7] _ (w2.heap.size + 1) 2 (by simp) (by omega) rfl rfl (by simp)).alloc _).sl (Nat.le_refl _) (by simp)
  have hS : LaysAt w2.heap.size W2 (.slice (some ⟨w2.heap.size + 1 + 1, 0, none⟩) 2 2) [[1], [1, 7]] := by
    refine ⟨[⟨some ⟨w2.heap.size, 0, none⟩, 1, 1⟩, ⟨some ⟨w2.heap.size + 1, 0, none⟩, 2, 2⟩], rfl, ?_, fun i hi => ?_⟩
    · rw [← hW]
      exact (OwnE.lit rowE _ w2.heap.size 34 _ _ (w2.heap.size + 1 + 1) 2 (by simp) (by omega) rfl rfl (by simp)).sl (Nat.le_refl _) (by simp)
    · match i, hi with
      | 0, _ => exact i0
      | 1, _ => exact i1
  have c1 : W2.cell? ⟨w2.heap.size + 1 + 1, 1, none⟩ = some (.slice (some ⟨w2.heap.size + 1, 0, none⟩) 2 2) := by
    rw [← hW]
    exact (OwnE.lit rowE _ w2.heap.size 34 [⟨some ⟨w2.heap.size, 0, none⟩, 1, 1⟩, ⟨some ⟨w2.heap.size + 1, 0, none⟩, 2, 2⟩] _ (w2.heap.size + 1 + 1) 2 (by simp) (by omega) rfl rfl (by simp)).cellAt 1 0 (by simp) (by decide)
  have z1 : w2.heap.size + 1 + 1 < W2.heap.size := by rw [← hW]; simp
  have f1 : W2.frozen? ⟨w2.heap.size + 1 + 1, 1, none⟩ = false := by
    rw [← hW]
    exact (OwnE.lit rowE _ w2.heap.size 34 [⟨some ⟨w2.heap.size, 0, none⟩, 1, 1⟩, ⟨some ⟨w2.heap.size + 1, 0, none⟩, 2, 2⟩] _ (w2.heap.size + 1 + 1) 2 (by simp) (by omega) rfl rfl (by simp)).frozenAt 1
  have HI := hid i1
  have HS := hid hS
  have HBX := hid (bvia HB2.out hbW)
  have HV1c := hid (HV1b.out.keep (Keep.below hbW))
  have HV2c := hid (HV2.out.keep (Keep.below hbW))
  clear hW hbW i0 i1 hS HV1b HV2
  refine Plan.wp_chain planA5 W2.heap.size (by kernel_rfl) rfl (by kernel_rfl) (by kernel_rfl) ?_
  repeat (first | (apply Plan.chain_skip rfl rfl; simp only [Act.put, List.setIfInBounds_toArray, List.set_cons_zero, List.set_cons_succ]) | (apply Plan.chain_det rfl rfl; (· intro w' hb; obtain ⟨hcl, hfz⟩ := bcellB hb; go_simp; rfl); simp only [Act.put, List.setIfInBounds_toArray, List.set_cons_zero, List.set_cons_succ]))
  refine Plan.chain_call 15 #[v1, .slice (some ⟨w2.heap.size + 1 + 1, 0, none⟩) 2 2] (fun v w' => v = .bool true ∧ Below W2.heap.size W2 w') rfl rfl rfl (by go_simp) ?_ (fun v w' h => h.2) (fun v w3 h => ?_)
  · have hd := (Below.refl W2.heap.size W2).drew
    refine (sameall_calls _ _ _ _ _ _ W2.drew (HV1c.out.keep (Keep.below hd)) (HS.out.keep (Keep.below hd))).mono ?_
    rintro e w' ⟨rfl, hb⟩
    exact ⟨_, rfl, by rw [show decide (([[1], [1, 7]] : List (List Int)) = [[1], [1, 7]]) = true from decide_eq_true rfl], bvia hd hb⟩
  obtain ⟨rfl, hb3⟩ := h
  have HB3 := hid hb3
  clear hb3
  repeat (first | (apply Plan.chain_skip rfl rfl; simp only [Act.put, List.setIfInBounds_toArray, List.set_cons_zero, List.set_cons_succ]) | (apply Plan.chain_det rfl rfl; (· intro w' hb; obtain ⟨hcl, hfz⟩ := bcellB hb; go_simp; rfl); simp only [Act.put, List.setIfInBounds_toArray, List.set_cons_zero, List.set_cons_succ]))
  refine Plan.chain_call 15 #[v2, .slice (some ⟨w2.heap.size + 1 + 1, 0, none⟩) 2 2] (fun v w' => v = .bool true ∧ Below W2.heap.size W2 w') rfl rfl rfl (by go_simp) ?_ (fun v w' h => h.2) (fun v w4 h => ?_)
  · refine (sameall_calls _ _ _ _ _ _ w3 (HV2c.out.keep (Keep.below HB3.out)) (HS.out.keep (Keep.below HB3.out))).mono ?_
    rintro e w' ⟨rfl, hb⟩
    exact ⟨_, rfl, by rw [show decide (([[1], [1, 7]] : List (List Int)) = [[1], [1, 7]]) = true from decide_eq_true rfl], bvia HB3.out hb⟩
  obtain ⟨rfl, hb4⟩ := h
  have HB4 := hid hb4
  have hz4 := hb4.size
  clear hb4
  repeat (first | (apply Plan.chain_skip rfl rfl; simp only [Act.put, List.setIfInBounds_toArray, List.set_cons_zero, List.set_cons_succ]) | (apply Plan.chain_det rfl rfl; (· intro w' hb; obtain ⟨hcl, hfz⟩ := bcellB hb; go_simp; rfl); simp only [Act.put, List.setIfInBounds_toArray, List.set_cons_zero, List.set_cons_succ]))
  refine Plan.chain_lit intE w4.heap.size 3 [7, 1, 7] #[.int .i64 7, .int .i64 1, .int .i64 7] 3 rfl rfl rfl (by go_simp) rfl rfl (by simp) (Nat.le_refl _) hz4 HB4.out (fun ho5 hb5 => ?_)
  simp only [Act.put, List.setIfInBounds_toArray, List.set_cons_zero, List.set_cons_succ]
  have HO5 := hid ho5
  have HB5 := hid hb5
  clear ho5 hb5
  repeat (first | (apply Plan.chain_skip rfl rfl; simp only [Act.put, List.setIfInBounds_toArray, List.set_cons_zero, List.set_cons_succ]) | (apply Plan.chain_det rfl rfl; (· intro w' hb; obtain ⟨hcl, hfz⟩ := bcellB hb; go_simp; rfl); simp only [Act.put, List.setIfInBounds_toArray, List.set_cons_zero, List.set_cons_succ]))
  refine Plan.chain_call 27 #[.slice (some ⟨w4.heap.size, 0, none⟩) 3 3] (fun v w' => IntsAt 0 w' v [1, 7] ∧ Below W2.heap.size W2 w') rfl rfl rfl (by go_simp) ?_ (fun v w' h => h.2) (fun v6 w6 h => ?_)
  · refine (lset_calls w4.heap.size _ [7, 1, 7] _ (HO5.out.sl (Nat.le_refl _) (by simp)) (by simp)).mono ?_
    rw [ex42_set]
    rintro e w' ⟨v', rfl, hi, hb⟩
    exact ⟨_, rfl, hi.mono (Nat.zero_le _), bvia HB5.out hb⟩
  obtain ⟨hv6, hb6⟩ := h
  have HV6 := hid hv6
  have HB6 := hid hb6
  clear hv6 hb6
  repeat (first | (apply Plan.chain_skip rfl rfl; simp only [Act.put, List.setIfInBounds_toArray, List.set_cons_zero, List.set_cons_succ]) | (apply Plan.chain_det rfl rfl; (· intro w' hb; obtain ⟨hcl, hfz⟩ := bcellB hb; go_simp; rfl); simp only [Act.put, List.setIfInBounds_toArray, List.set_cons_zero, List.set_cons_succ]))
  refine Plan.chain_call 26 #[v6, .slice (some ⟨w2.heap.size + 1, 0, none⟩) 2 2] (fun v w' => v = .bool true ∧ Below W2.heap.size W2 w') rfl rfl rfl (by go_simp) ?_ (fun v w' h => h.2) (fun v w7 h => ?_)
  · refine (rsame_calls _ _ _ _ [1, 7] [1, 7] w6 HV6.out (HI.out.below HB6.out)).mono ?_
    rintro e w' ⟨rfl, hb⟩
    exact ⟨_, rfl, by rw [show intsEq [1, 7] [1, 7] = true by decide], bvia HB6.out hb⟩
  obtain ⟨rfl, hb7⟩ := h
  have HB7 := hid (bvia HBX.out hb7)
  clear hb7
  repeat (first | (apply Plan.chain_skip rfl rfl; simp only [Act.put, List.setIfInBounds_toArray, List.set_cons_zero, List.set_cons_succ]) | (apply Plan.chain_det rfl rfl; (· intro w' hb; obtain ⟨hcl, hfz⟩ := bcellB hb; go_simp; rfl); simp only [Act.put, List.setIfInBounds_toArray, List.set_cons_zero, List.set_cons_succ]))
  refine Plan.chain_nil ?_
  go_wp2_with fail
  go_ret
  exact ⟨rfl, HB7.out⟩

end Go.Proofs.Ytnbffkcnhphdnaa
