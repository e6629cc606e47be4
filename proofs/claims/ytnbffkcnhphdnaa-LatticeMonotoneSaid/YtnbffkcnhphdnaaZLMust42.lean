/-
  The law LatticeMustMatchesReference, walked.
-/
import Derived.Test.YtnbffkcnhphdnaaZLMay42
namespace Go.Proofs.Ytnbffkcnhphdnaa
set_option linter.unusedVariables false
set_option linter.unusedSimpArgs false
open Go.RowKit

noncomputable def planLU5 : Plan := mkPlan (regionOf Try.f4 5) [(5, .new), (9, .new), (18, .new), (19, .new)] []

set_option maxRecDepth 100000 in
set_option maxHeartbeats 8000000 in
theorem lmust_calls (lo1 lo2 : Nat) (ve vs : Value) (N : Nat) (E : List Edg) (S : List (List Int)) (lo3 : Nat) (va : Value) (all : List Int) (w : World) (hN : N < 256) (hE0 : EdgesAt lo1 w ve E) (hS0 : LaysAt lo2 w vs S) (ha0 : IntsAt lo3 w va all) :
    Calls Try.prog 4 #[.agg #[.int .u8 (N : Nat), ve, vs], va] w fun e w' => e = .returned (.bool true) ∧ Below w.heap.size w w' := by
  have HE := hid hE0
  have HS := hid hS0
  have HA := hid ha0
  obtain ⟨aa, ac, _, _, rfl, _⟩ := IntsAt.open ha0
  clear hE0 hS0 ha0
  by_cases hal : 8 < all.length
  all_goals
    go_enter Try.func4, Try.ntmps4
    go_wp2_with fail
    generalize hW : World.alloc _ _ = W
    have hbW : Below w.heap.size w W := by rw [← hW]; exact (Below.refl _ _).alloc (Nat.le_refl _) _
    have R1 := hid (show BoxAt W w.heap.size 25 [.int .u8 (N : Nat), ve, vs] by rw [← hW]; exact BoxAt.new _ _ _ _ _ rfl rfl)
    have HBW := hid hbW
    clear hW hbW
    refine (awake42_calls W).mono ?_
    rintro e w1 ⟨rfl, hb1⟩
    have hr := R1.out.below hb1
    have HR1 := hid hr
    have c0 := hr.cell 0 _ rfl
    have c1 := hr.cell 1 _ rfl
    have c2 := hr.cell 2 _ rfl
    have s1 := hr.lt
    have HB1 := hid (bvia HBW.out hb1)
    clear hb1 hr R1
    go_wp2_with fail
    refine (few_calls lo1 lo2 ve vs N E S w1 (HE.out.below HB1.out) (HS.out.keep (Keep.below HB1.out)) hN).mono ?_
    rintro e w2 ⟨hq, hb2⟩
    have HB2 := hid (bvia HB1.out hb2)
    have hr := HR1.out.below hb2
    clear c0 c1 c2 s1
    have c0 := hr.cell 0 _ rfl
    have c1 := hr.cell 1 _ rfl
    have c2 := hr.cell 2 _ rfl
    have s1 := hr.lt
    have HR2 := hid hr
    clear hb2 hr HR1
    rcases hq with rfl | ⟨rfl, hf⟩
    · clear c0 c1 c2 s1
      go_wp2_with fail
      go_ret
      exact ⟨rfl, HB2.out⟩
    have HF := hid hf
    have HE2 := hid (HE.out.below HB2.out)
    have HS2 := hid (HS.out.keep (Keep.below HB2.out))
    have HCONT := hid (show N ≤ 8 ∧ E.length ≤ 16 from ⟨hf.1, hf.2.1⟩)
    have hwN : IntKind.i64.wrap (N : Int) = (N : Int) := IntWalk.i64_in _ (by omega)
    clear hf HE HS
    go_wp2_with fail
  · go_ret
    exact ⟨rfl, HB2.out⟩
  · refine Plan.wp_chain planLU5 w2.heap.size (by kernel_rfl) rfl (by kernel_rfl) (by kernel_rfl) ?_
    repeat (first | (apply Plan.chain_skip rfl rfl; simp only [Act.put, List.setIfInBounds_toArray, List.set_cons_zero, List.set_cons_succ]) | (apply Plan.chain_det rfl rfl; (· intro w' hb; obtain ⟨hcl, hfz⟩ := bcellB hb; go_simp; rfl); simp only [Act.put, List.setIfInBounds_toArray, List.set_cons_zero, List.set_cons_succ]))
    refine Plan.chain_call 14 #[ve] (fun v w' => EdgesAt 0 w' v E ∧ Below w2.heap.size w2 w') rfl rfl rfl (by go_simp) ?_ (fun v w' h => h.2) (fun v6 w6 h => ?_)
    · refine (own42_calls lo1 ve E w2.drew (HE2.out.below (Below.refl _ _).drew) (by have := HCONT.out; omega)).mono ?_
      rintro e w' ⟨v', rfl, h1, hb⟩
      exact ⟨v', rfl, h1, bvia (Below.refl _ _).drew hb⟩
    obtain ⟨h6, hb6⟩ := h
    have HE6 := hid h6
    have HB6 := hid hb6
    clear h6 hb6
    repeat (first | (apply Plan.chain_skip rfl rfl; simp only [Act.put, List.setIfInBounds_toArray, List.set_cons_zero, List.set_cons_succ]) | (apply Plan.chain_det rfl rfl; (· intro w' hb; obtain ⟨hcl, hfz⟩ := bcellB hb; go_simp; rfl); simp only [Act.put, List.setIfInBounds_toArray, List.set_cons_zero, List.set_cons_succ]))
    refine Plan.chain_call 17 #[.int .i64 N, v6, vs, .slice aa all.length ac] (fun v w' => (∃ X, MustIs N E S all X ∧ LaysAt 0 w' v X) ∧ Below w2.heap.size w2 w') rfl rfl rfl (by go_simp) ?_ (fun v w' h => h.2) (fun v7 w7 h => ?_)
    · refine (must_small 0 lo2 lo3 v6 vs _ N E S all w6 HE6.out (HS2.out.keep (Keep.below HB6.out)) (HA.out.below (bvia HB2.out HB6.out)) HF.out (by omega)).mono ?_
      rintro e w' ⟨v', X, rfl, h1, h2, hb⟩
      exact ⟨_, rfl, ⟨X, h1, h2⟩, bvia HB6.out hb⟩
    obtain ⟨⟨X, hX, hx7⟩, hb7⟩ := h
    have HX7 := hid hx7
    have HXI := hid hX
    have HB7 := hid hb7
    clear hX hx7 hb7 HE6
    repeat (first | (apply Plan.chain_skip rfl rfl; simp only [Act.put, List.setIfInBounds_toArray, List.set_cons_zero, List.set_cons_succ]) | (apply Plan.chain_det rfl rfl; (· intro w' hb; obtain ⟨hcl, hfz⟩ := bcellB hb; go_simp; rfl); simp only [Act.put, List.setIfInBounds_toArray, List.set_cons_zero, List.set_cons_succ]))
    refine Plan.chain_call 18 #[.int .i64 N, ve, vs, .slice aa all.length ac] (fun v w' => (LaysAt 0 w' v X ∧ LaysAt 0 w' v7 X) ∧ Below w2.heap.size w2 w') rfl rfl rfl (by go_simp) ?_ (fun v w' h => h.2) (fun v8 w8 h => ?_)
    · refine (rmust_small lo1 lo2 lo3 ve vs _ N E S all w7 (HE2.out.below HB7.out) (HS2.out.keep (Keep.below HB7.out)) (HA.out.below (bvia HB2.out HB7.out)) HF.out (by omega)).mono ?_
      rintro e w' ⟨v', Y, rfl, h1, h2, hb⟩
      have ey := h1.unique HXI.out
      subst ey
      exact ⟨_, rfl, ⟨h2, HX7.out.keep (Keep.below hb)⟩, bvia HB7.out hb⟩
    obtain ⟨⟨h8, h8'⟩, hb8⟩ := h
    have HX8 := hid h8
    have HX9 := hid h8'
    have HB8 := hid hb8
    clear h8 h8' hb8
    repeat (first | (apply Plan.chain_skip rfl rfl; simp only [Act.put, List.setIfInBounds_toArray, List.set_cons_zero, List.set_cons_succ]) | (apply Plan.chain_det rfl rfl; (· intro w' hb; obtain ⟨hcl, hfz⟩ := bcellB hb; go_simp; rfl); simp only [Act.put, List.setIfInBounds_toArray, List.set_cons_zero, List.set_cons_succ]))
    refine Plan.chain_call 15 #[v7, v8] (fun v w' => v = .bool true ∧ Below w2.heap.size w2 w') rfl rfl rfl (by go_simp) ?_ (fun v w' h => h.2) (fun v9 w9 h => ?_)
    · refine (sameall_calls _ _ _ _ _ _ w8 HX9.out HX8.out).mono ?_
      rintro e w' ⟨rfl, hb⟩
      exact ⟨_, rfl, by rw [show decide (X = X) = true from decide_eq_true rfl], bvia HB8.out hb⟩
    obtain ⟨rfl, hb9⟩ := h
    have HB9 := hid (bvia HB2.out hb9)
    clear hb9 c0 c1 c2 s1
    repeat (first | (apply Plan.chain_skip rfl rfl; simp only [Act.put, List.setIfInBounds_toArray, List.set_cons_zero, List.set_cons_succ]) | (apply Plan.chain_det rfl rfl; (· intro w' hb; obtain ⟨hcl, hfz⟩ := bcellB hb; go_simp; rfl); simp only [Act.put, List.setIfInBounds_toArray, List.set_cons_zero, List.set_cons_succ]))
    refine Plan.chain_nil ?_
    go_wp2_with fail
    go_ret
    exact ⟨rfl, HB9.out⟩

end Go.Proofs.Ytnbffkcnhphdnaa
