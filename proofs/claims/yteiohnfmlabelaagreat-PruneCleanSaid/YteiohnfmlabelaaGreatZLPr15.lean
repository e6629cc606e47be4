/-
  Prune and Clean are the document's: the laws, walked.
-/
import Derived.Test.YteiohnfmlabelaaGreatZValid
import Derived.Test.YteiohnfmlabelaaGreatZPrAwk
import Derived.Test.YteiohnfmlabelaaGreatZPrRClean
namespace Go.Proofs.YteiohnfmlabelaaGreat
set_option linter.unusedVariables false
set_option linter.unusedSimpArgs false
open Go.RowKit

theorem nilP_at (w : World) : ProgAt 0 w (.slice none 0 0) (.slice none 0 0) (.slice none 0 0) ⟨[], [], [], 0⟩ :=
  ⟨⟨[], rfl, (OwnE.nil funE 0 33 w).sl (Nat.le_refl _) (by simp), fun i hi => by simp at hi⟩, (OwnE.nil globE 0 43 w).sl (Nat.le_refl _) (by simp), ⟨[], rfl, (OwnE.nil rowE 0 36 w).sl (Nat.le_refl _) (by simp), fun i hi => by simp at hi⟩⟩
theorem eqC_comm {α : Type} (a b : α) : eqC a b = eqC b a := by
  by_cases h : a = b
  · rw [h]
  · rw [eqC_false h, eqC_false (fun e => h e.symm)]

noncomputable def planLP : Plan := mkPlan (regionOf Tryz.f3 1) [(0, .new), (3, .new), (4, .new), (6, .new), (7, .new)] []
noncomputable def planLC : Plan := mkPlan (regionOf Tryz.f4 1) [(0, .new), (3, .new), (5, .new), (10, .new), (14, .new), (15, .new)] []
noncomputable def planLCn : Plan := mkPlan (regionOf Tryz.f4 1) [(0, .new), (3, .new), (5, .new), (10, .new), (13, .skip), (14, .skip), (15, .skip)] []

set_option maxRecDepth 100000 in
set_option maxHeartbeats 8000000 in
theorem prunes_yes (lo : Nat) (vf vg vl : Value) (p : Prg) (w : World) (hp : ProgAt lo w vf vg vl p) (hwf : PrgWf p) (hv : validB p = true) :
    Calls Tryz.prog 3 #[.agg #[vf, vg, vl, .int .i64 p.main]] w fun e w' => e = .returned (.bool true) ∧ Below w.heap.size w w' := by
  have HP := hid hp
  have HV := hid hv
  have HWF := hid hwf
  obtain ⟨fa, fc, _, _, _, rfl, -⟩ := hp.funcs.open
  obtain ⟨ga, gc, _, _, rfl, -⟩ := hp.globs.open
  obtain ⟨la, lc, _, _, _, rfl, -⟩ := hp.lays.open
  clear hp hv hwf
  go_enter Tryz.func3, Tryz.ntmps3
  go_wp2_with fail
  generalize hW : World.alloc _ _ = W
  have hbx := show BoxAt W w.heap.size 26 [.slice fa p.funcs.length fc, .slice ga p.globals.length gc, .slice la p.layouts.length lc, .int .i64 p.main] by rw [← hW]; exact BoxAt.new _ _ _ _ _ rfl rfl
  have hbW : Below w.heap.size w W := by rw [← hW]; exact (Below.refl _ _).alloc (Nat.le_refl _) _
  have HBW := hid hbW
  have c0 := hbx.cell 0 _ rfl
  have c1 := hbx.cell 1 _ rfl
  have c2 := hbx.cell 2 _ rfl
  have c3 := hbx.cell 3 _ rfl
  have s1 := hbx.lt
  have HPW := hid (HP.out.below hbW)
  clear hW hbW hbx
  refine Plan.wp_chain planLP W.heap.size (by kernel_rfl) rfl (by kernel_rfl) (by kernel_rfl) ?_
  repeat (first | (apply Plan.chain_skip rfl rfl; simp only [Act.put, List.setIfInBounds_toArray, List.set_cons_zero, List.set_cons_succ]) | (apply Plan.chain_det rfl rfl; (· intro w' hb; obtain ⟨hcl, hfz⟩ := bcellB hb; go_simp; rfl); simp only [Act.put, List.setIfInBounds_toArray, List.set_cons_zero, List.set_cons_succ]))
  refine Plan.chain_call 6 #[] (fun v w' => v = .bool true ∧ Below W.heap.size W w') rfl rfl rfl (by go_simp) ?_ (fun v w' h => h.2) (fun va w1 h => ?_)
  · refine (awake15_calls W.drew).mono ?_
    rintro e w' ⟨rfl, hb⟩
    exact ⟨_, rfl, rfl, (Below.refl _ _).drew.trans hb⟩
  obtain ⟨rfl, hb1⟩ := h
  simp only [Act.put, List.setIfInBounds_toArray, List.set_cons_zero, List.set_cons_succ]
  have HB1 := hid hb1
  clear hb1
  repeat (first | (apply Plan.chain_skip rfl rfl; simp only [Act.put, List.setIfInBounds_toArray, List.set_cons_zero, List.set_cons_succ]) | (apply Plan.chain_det rfl rfl; (· intro w' hb; obtain ⟨hcl, hfz⟩ := bcellB hb; go_simp; rfl); simp only [Act.put, List.setIfInBounds_toArray, List.set_cons_zero, List.set_cons_succ]))
  refine Plan.chain_call 9 #[.agg #[.slice fa p.funcs.length fc, .slice ga p.globals.length gc, .slice la p.layouts.length lc, .int .i64 p.main]] (fun v w' => (∃ f1 f2 f3 g1 g2 g3 l1 l2 l3, v = .agg #[.slice f1 f2 f3, .slice g1 g2 g3, .slice l1 l2 l3, .int .i64 p.main] ∧ True ∧ ProgAt 0 w' (.slice f1 f2 f3) (.slice g1 g2 g3) (.slice l1 l2 l3) p) ∧ Below W.heap.size W w') rfl rfl rfl (by go_simp) ?_ (fun v w' h => h.2) (fun va w2 h => ?_)
  · refine (copy_calls lo _ _ _ p w1 (HPW.out.below HB1.out) HWF.out).mono ?_
    rintro e w' ⟨uf, ug, ul, rfl, hop, hb⟩
    have hat := OwnPrg.at (lo := 0) hop (Nat.zero_le _) HWF.out
    obtain ⟨_, _, _, _, _, rfl, -⟩ := hat.funcs.open
    obtain ⟨_, _, _, _, rfl, -⟩ := hat.globs.open
    obtain ⟨_, _, _, _, _, rfl, -⟩ := hat.lays.open
    exact ⟨_, rfl, ⟨_, _, _, _, _, _, _, _, _, rfl, trivial, hat⟩, HB1.out.trans (hb.mono HB1.out.size)⟩
  obtain ⟨⟨f1, f2, f3, g1, g2, g3, l1, l2, l3, rfl, -, hat2⟩, hb2⟩ := h
  simp only [Act.put, List.setIfInBounds_toArray, List.set_cons_zero, List.set_cons_succ]
  have HB2 := hid hb2
  have HAT2 := hid hat2
  clear hat2
  clear hb2
  repeat (first | (apply Plan.chain_skip rfl rfl; simp only [Act.put, List.setIfInBounds_toArray, List.set_cons_zero, List.set_cons_succ]) | (apply Plan.chain_det rfl rfl; (· intro w' hb; obtain ⟨hcl, hfz⟩ := bcellB hb; go_simp; rfl); simp only [Act.put, List.setIfInBounds_toArray, List.set_cons_zero, List.set_cons_succ]))
  refine Plan.chain_call 8 #[.agg #[.slice f1 f2 f3, .slice g1 g2 g3, .slice l1 l2 l3, .int .i64 p.main]] (fun v w' => (∃ f1 f2 f3 g1 g2 g3 l1 l2 l3 q, v = .agg #[.slice f1 f2 f3, .slice g1 g2 g3, .slice l1 l2 l3, .int .i64 q.main] ∧ Prn p 0 q ∧ ProgAt 0 w' (.slice f1 f2 f3) (.slice g1 g2 g3) (.slice l1 l2 l3) q) ∧ Below W.heap.size W w') rfl rfl rfl (by go_simp) ?_ (fun v w' h => h.2) (fun va w3 h => ?_)
  · refine (prune_yes 0 _ _ _ p w2 HAT2.out HV.out).mono ?_
    rintro e w' ⟨g, cap, ug, ul, q, ss, rs, rfl, hpr, ho, hb⟩
    have hat := ho.at (valid_pos (hpr.ok HV.out (fun i hi => by omega)).valid).2
    obtain ⟨_, _, _, _, rfl, -⟩ := hat.globs.open
    obtain ⟨_, _, _, _, _, rfl, -⟩ := hat.lays.open
    exact ⟨_, rfl, ⟨_, _, _, _, _, _, _, _, _, q, rfl, hpr, hat⟩, HB2.out.trans (hb.mono HB2.out.size)⟩
  obtain ⟨⟨a1, a2, a3, b1, b2, b3, d1, d2, d3, q, rfl, hpr, hat3⟩, hb3⟩ := h
  simp only [Act.put, List.setIfInBounds_toArray, List.set_cons_zero, List.set_cons_succ]
  have HB3 := hid hb3
  have HAT3 := hid hat3
  have HPR := hid hpr
  clear hat3 hpr
  clear hb3
  repeat (first | (apply Plan.chain_skip rfl rfl; simp only [Act.put, List.setIfInBounds_toArray, List.set_cons_zero, List.set_cons_succ]) | (apply Plan.chain_det rfl rfl; (· intro w' hb; obtain ⟨hcl, hfz⟩ := bcellB hb; go_simp; rfl); simp only [Act.put, List.setIfInBounds_toArray, List.set_cons_zero, List.set_cons_succ]))
  refine Plan.chain_call 10 #[.agg #[.slice fa p.funcs.length fc, .slice ga p.globals.length gc, .slice la p.layouts.length lc, .int .i64 p.main]] (fun v w' => (∃ f1 f2 f3 g1 g2 g3 l1 l2 l3 q2, v = .agg #[.slice f1 f2 f3, .slice g1 g2 g3, .slice l1 l2 l3, .int .i64 q2.main] ∧ (Prn p 0 q2 ∧ Below w3.heap.size w3 w') ∧ ProgAt 0 w' (.slice f1 f2 f3) (.slice g1 g2 g3) (.slice l1 l2 l3) q2) ∧ Below W.heap.size W w') rfl rfl rfl (by go_simp) ?_ (fun v w' h => h.2) (fun va w4 h => ?_)
  · refine (rprune_yes lo _ _ _ p w3 (HPW.out.below HB3.out) HWF.out HV.out).mono ?_
    rintro e w' ⟨uf, ug, ul, q2, rfl, hpr, hat, hb⟩
    obtain ⟨_, _, _, _, _, rfl, -⟩ := hat.funcs.open
    obtain ⟨_, _, _, _, rfl, -⟩ := hat.globs.open
    obtain ⟨_, _, _, _, _, rfl, -⟩ := hat.lays.open
    exact ⟨_, rfl, ⟨_, _, _, _, _, _, _, _, _, q2, rfl, ⟨hpr, hb⟩, hat⟩, HB3.out.trans (hb.mono HB3.out.size)⟩
  obtain ⟨⟨x1, x2, x3, y1, y2, y3, z1, z2, z3, q2, rfl, ⟨hpr2, hbx4⟩, hat4⟩, hb4⟩ := h
  simp only [Act.put, List.setIfInBounds_toArray, List.set_cons_zero, List.set_cons_succ]
  have HB4 := hid hb4
  have HAT4 := hid hat4
  have HPR2 := hid hpr2
  have HBX4 := hid hbx4
  clear hat4 hpr2 hbx4
  clear hb4
  repeat (first | (apply Plan.chain_skip rfl rfl; simp only [Act.put, List.setIfInBounds_toArray, List.set_cons_zero, List.set_cons_succ]) | (apply Plan.chain_det rfl rfl; (· intro w' hb; obtain ⟨hcl, hfz⟩ := bcellB hb; go_simp; rfl); simp only [Act.put, List.setIfInBounds_toArray, List.set_cons_zero, List.set_cons_succ]))
  refine Plan.chain_call 7 #[.agg #[.slice a1 a2 a3, .slice b1 b2 b3, .slice d1 d2 d3, .int .i64 q.main], .agg #[.slice x1 x2 x3, .slice y1 y2 y3, .slice z1 z2 z3, .int .i64 q2.main]] (fun v w' => v = .bool true ∧ Below W.heap.size W w') rfl rfl rfl (by go_simp) ?_ (fun v w' h => h.2) (fun va w5 h => ?_)
  · have hqq := HPR.out.unique HPR2.out
    refine (requal_calls 0 0 _ _ _ _ _ _ q q2 w4 (HAT3.out.below (HBX4.out)) HAT4.out).mono ?_
    rw [eqC_true hqq]
    rintro e w' ⟨rfl, hb⟩
    exact ⟨_, rfl, rfl, HB4.out.trans (hb.mono HB4.out.size)⟩
  obtain ⟨rfl, hb5⟩ := h
  simp only [Act.put, List.setIfInBounds_toArray, List.set_cons_zero, List.set_cons_succ]
  have HB5 := hid hb5
  clear hb5
  repeat (first | (apply Plan.chain_skip rfl rfl; simp only [Act.put, List.setIfInBounds_toArray, List.set_cons_zero, List.set_cons_succ]) | (apply Plan.chain_det rfl rfl; (· intro w' hb; obtain ⟨hcl, hfz⟩ := bcellB hb; go_simp; rfl); simp only [Act.put, List.setIfInBounds_toArray, List.set_cons_zero, List.set_cons_succ]))
  refine Plan.chain_nil ?_
  go_wp2_with fail
  go_ret
  exact ⟨rfl, HBW.out.trans (HB5.out.mono HBW.out.size)⟩

set_option maxRecDepth 100000 in
set_option maxHeartbeats 8000000 in
theorem prunes_no (lo : Nat) (vf vg vl : Value) (p : Prg) (w : World) (hp : ProgAt lo w vf vg vl p) (hwf : PrgWf p) (hv : validB p = false) :
    Calls Tryz.prog 3 #[.agg #[vf, vg, vl, .int .i64 p.main]] w fun e w' => e = .returned (.bool true) ∧ Below w.heap.size w w' := by
  have HP := hid hp
  have HV := hid hv
  have HWF := hid hwf
  obtain ⟨fa, fc, _, _, _, rfl, -⟩ := hp.funcs.open
  obtain ⟨ga, gc, _, _, rfl, -⟩ := hp.globs.open
  obtain ⟨la, lc, _, _, _, rfl, -⟩ := hp.lays.open
  clear hp hv hwf
  go_enter Tryz.func3, Tryz.ntmps3
  go_wp2_with fail
  generalize hW : World.alloc _ _ = W
  have hbx := show BoxAt W w.heap.size 26 [.slice fa p.funcs.length fc, .slice ga p.globals.length gc, .slice la p.layouts.length lc, .int .i64 p.main] by rw [← hW]; exact BoxAt.new _ _ _ _ _ rfl rfl
  have hbW : Below w.heap.size w W := by rw [← hW]; exact (Below.refl _ _).alloc (Nat.le_refl _) _
  have HBW := hid hbW
  have c0 := hbx.cell 0 _ rfl
  have c1 := hbx.cell 1 _ rfl
  have c2 := hbx.cell 2 _ rfl
  have c3 := hbx.cell 3 _ rfl
  have s1 := hbx.lt
  have HPW := hid (HP.out.below hbW)
  clear hW hbW hbx
  refine Plan.wp_chain planLP W.heap.size (by kernel_rfl) rfl (by kernel_rfl) (by kernel_rfl) ?_
  repeat (first | (apply Plan.chain_skip rfl rfl; simp only [Act.put, List.setIfInBounds_toArray, List.set_cons_zero, List.set_cons_succ]) | (apply Plan.chain_det rfl rfl; (· intro w' hb; obtain ⟨hcl, hfz⟩ := bcellB hb; go_simp; rfl); simp only [Act.put, List.setIfInBounds_toArray, List.set_cons_zero, List.set_cons_succ]))
  refine Plan.chain_call 6 #[] (fun v w' => v = .bool true ∧ Below W.heap.size W w') rfl rfl rfl (by go_simp) ?_ (fun v w' h => h.2) (fun va w1 h => ?_)
  · refine (awake15_calls W.drew).mono ?_
    rintro e w' ⟨rfl, hb⟩
    exact ⟨_, rfl, rfl, (Below.refl _ _).drew.trans hb⟩
  obtain ⟨rfl, hb1⟩ := h
  simp only [Act.put, List.setIfInBounds_toArray, List.set_cons_zero, List.set_cons_succ]
  have HB1 := hid hb1
  clear hb1
  repeat (first | (apply Plan.chain_skip rfl rfl; simp only [Act.put, List.setIfInBounds_toArray, List.set_cons_zero, List.set_cons_succ]) | (apply Plan.chain_det rfl rfl; (· intro w' hb; obtain ⟨hcl, hfz⟩ := bcellB hb; go_simp; rfl); simp only [Act.put, List.setIfInBounds_toArray, List.set_cons_zero, List.set_cons_succ]))
  refine Plan.chain_call 9 #[.agg #[.slice fa p.funcs.length fc, .slice ga p.globals.length gc, .slice la p.layouts.length lc, .int .i64 p.main]] (fun v w' => (∃ f1 f2 f3 g1 g2 g3 l1 l2 l3, v = .agg #[.slice f1 f2 f3, .slice g1 g2 g3, .slice l1 l2 l3, .int .i64 p.main] ∧ True ∧ ProgAt 0 w' (.slice f1 f2 f3) (.slice g1 g2 g3) (.slice l1 l2 l3) p) ∧ Below W.heap.size W w') rfl rfl rfl (by go_simp) ?_ (fun v w' h => h.2) (fun va w2 h => ?_)
  · refine (copy_calls lo _ _ _ p w1 (HPW.out.below HB1.out) HWF.out).mono ?_
    rintro e w' ⟨uf, ug, ul, rfl, hop, hb⟩
    have hat := OwnPrg.at (lo := 0) hop (Nat.zero_le _) HWF.out
    obtain ⟨_, _, _, _, _, rfl, -⟩ := hat.funcs.open
    obtain ⟨_, _, _, _, rfl, -⟩ := hat.globs.open
    obtain ⟨_, _, _, _, _, rfl, -⟩ := hat.lays.open
    exact ⟨_, rfl, ⟨_, _, _, _, _, _, _, _, _, rfl, trivial, hat⟩, HB1.out.trans (hb.mono HB1.out.size)⟩
  obtain ⟨⟨f1, f2, f3, g1, g2, g3, l1, l2, l3, rfl, -, hat2⟩, hb2⟩ := h
  simp only [Act.put, List.setIfInBounds_toArray, List.set_cons_zero, List.set_cons_succ]
  have HB2 := hid hb2
  have HAT2 := hid hat2
  clear hat2
  clear hb2
  repeat (first | (apply Plan.chain_skip rfl rfl; simp only [Act.put, List.setIfInBounds_toArray, List.set_cons_zero, List.set_cons_succ]) | (apply Plan.chain_det rfl rfl; (· intro w' hb; obtain ⟨hcl, hfz⟩ := bcellB hb; go_simp; rfl); simp only [Act.put, List.setIfInBounds_toArray, List.set_cons_zero, List.set_cons_succ]))
  refine Plan.chain_call 8 #[.agg #[.slice f1 f2 f3, .slice g1 g2 g3, .slice l1 l2 l3, .int .i64 p.main]] (fun v w' => v = .agg #[.slice none 0 0, .slice none 0 0, .slice none 0 0, .int .i64 0] ∧ Below W.heap.size W w') rfl rfl rfl (by go_simp) ?_ (fun v w' h => h.2) (fun va w3 h => ?_)
  · refine (prune_no 0 _ _ _ p w2 HAT2.out HV.out).mono ?_
    rintro e w' ⟨rfl, hb⟩
    exact ⟨_, rfl, rfl, HB2.out.trans (hb.mono HB2.out.size)⟩
  obtain ⟨rfl, hb3⟩ := h
  simp only [Act.put, List.setIfInBounds_toArray, List.set_cons_zero, List.set_cons_succ]
  have HB3 := hid hb3
  clear hb3
  repeat (first | (apply Plan.chain_skip rfl rfl; simp only [Act.put, List.setIfInBounds_toArray, List.set_cons_zero, List.set_cons_succ]) | (apply Plan.chain_det rfl rfl; (· intro w' hb; obtain ⟨hcl, hfz⟩ := bcellB hb; go_simp; rfl); simp only [Act.put, List.setIfInBounds_toArray, List.set_cons_zero, List.set_cons_succ]))
  refine Plan.chain_call 10 #[.agg #[.slice fa p.funcs.length fc, .slice ga p.globals.length gc, .slice la p.layouts.length lc, .int .i64 p.main]] (fun v w' => v = .agg #[.slice none 0 0, .slice none 0 0, .slice none 0 0, .int .i64 0] ∧ Below W.heap.size W w') rfl rfl rfl (by go_simp) ?_ (fun v w' h => h.2) (fun va w4 h => ?_)
  · refine (rprune_no lo _ _ _ p w3 (HPW.out.below HB3.out) HV.out).mono ?_
    rintro e w' ⟨rfl, hb⟩
    exact ⟨_, rfl, rfl, HB3.out.trans (hb.mono HB3.out.size)⟩
  obtain ⟨rfl, hb4⟩ := h
  simp only [Act.put, List.setIfInBounds_toArray, List.set_cons_zero, List.set_cons_succ]
  have HB4 := hid hb4
  clear hb4
  repeat (first | (apply Plan.chain_skip rfl rfl; simp only [Act.put, List.setIfInBounds_toArray, List.set_cons_zero, List.set_cons_succ]) | (apply Plan.chain_det rfl rfl; (· intro w' hb; obtain ⟨hcl, hfz⟩ := bcellB hb; go_simp; rfl); simp only [Act.put, List.setIfInBounds_toArray, List.set_cons_zero, List.set_cons_succ]))
  refine Plan.chain_call 7 #[.agg #[.slice none 0 0, .slice none 0 0, .slice none 0 0, .int .i64 0], .agg #[.slice none 0 0, .slice none 0 0, .slice none 0 0, .int .i64 0]] (fun v w' => v = .bool true ∧ Below W.heap.size W w') rfl rfl rfl (by go_simp) ?_ (fun v w' h => h.2) (fun va w5 h => ?_)
  · refine (requal_calls 0 0 _ _ _ _ _ _ ⟨[], [], [], 0⟩ ⟨[], [], [], 0⟩ w4 (nilP_at _) (nilP_at _)).mono ?_
    rw [eqC_true rfl]
    rintro e w' ⟨rfl, hb⟩
    exact ⟨_, rfl, rfl, HB4.out.trans (hb.mono HB4.out.size)⟩
  obtain ⟨rfl, hb5⟩ := h
  simp only [Act.put, List.setIfInBounds_toArray, List.set_cons_zero, List.set_cons_succ]
  have HB5 := hid hb5
  clear hb5
  repeat (first | (apply Plan.chain_skip rfl rfl; simp only [Act.put, List.setIfInBounds_toArray, List.set_cons_zero, List.set_cons_succ]) | (apply Plan.chain_det rfl rfl; (· intro w' hb; obtain ⟨hcl, hfz⟩ := bcellB hb; go_simp; rfl); simp only [Act.put, List.setIfInBounds_toArray, List.set_cons_zero, List.set_cons_succ]))
  refine Plan.chain_nil ?_
  go_wp2_with fail
  go_ret
  exact ⟨rfl, HBW.out.trans (HB5.out.mono HBW.out.size)⟩

set_option maxRecDepth 100000 in
set_option maxHeartbeats 8000000 in
theorem pclean_yes (lo : Nat) (vf vg vl : Value) (p : Prg) (w : World) (hp : ProgAt lo w vf vg vl p) (hwf : PrgWf p) (hv : validB p = true) :
    Calls Tryz.prog 4 #[.agg #[vf, vg, vl, .int .i64 p.main]] w fun e w' => e = .returned (.bool true) ∧ Below w.heap.size w w' := by
  have HP := hid hp
  have HV := hid hv
  have HWF := hid hwf
  obtain ⟨fa, fc, _, _, _, rfl, -⟩ := hp.funcs.open
  obtain ⟨ga, gc, _, _, rfl, -⟩ := hp.globs.open
  obtain ⟨la, lc, _, _, _, rfl, -⟩ := hp.lays.open
  clear hp hv hwf
  go_enter Tryz.func4, Tryz.ntmps4
  go_wp2_with fail
  generalize hW : World.alloc _ _ = W
  have hbx := show BoxAt W w.heap.size 26 [.slice fa p.funcs.length fc, .slice ga p.globals.length gc, .slice la p.layouts.length lc, .int .i64 p.main] by rw [← hW]; exact BoxAt.new _ _ _ _ _ rfl rfl
  have hbW : Below w.heap.size w W := by rw [← hW]; exact (Below.refl _ _).alloc (Nat.le_refl _) _
  have HBW := hid hbW
  have c0 := hbx.cell 0 _ rfl
  have c1 := hbx.cell 1 _ rfl
  have c2 := hbx.cell 2 _ rfl
  have c3 := hbx.cell 3 _ rfl
  have s1 := hbx.lt
  have HPW := hid (HP.out.below hbW)
  clear hW hbW hbx
  refine Plan.wp_chain planLC W.heap.size (by kernel_rfl) rfl (by kernel_rfl) (by kernel_rfl) ?_
  repeat (first | (apply Plan.chain_skip rfl rfl; simp only [Act.put, List.setIfInBounds_toArray, List.set_cons_zero, List.set_cons_succ]) | (apply Plan.chain_det rfl rfl; (· intro w' hb; obtain ⟨hcl, hfz⟩ := bcellB hb; go_simp; rfl); simp only [Act.put, List.setIfInBounds_toArray, List.set_cons_zero, List.set_cons_succ]))
  refine Plan.chain_call 6 #[] (fun v w' => v = .bool true ∧ Below W.heap.size W w') rfl rfl rfl (by go_simp) ?_ (fun v w' h => h.2) (fun va w1 h => ?_)
  · refine (awake15_calls W.drew).mono ?_
    rintro e w' ⟨rfl, hb⟩
    exact ⟨_, rfl, rfl, (Below.refl _ _).drew.trans hb⟩
  obtain ⟨rfl, hb1⟩ := h
  simp only [Act.put, List.setIfInBounds_toArray, List.set_cons_zero, List.set_cons_succ]
  have HB1 := hid hb1
  clear hb1
  repeat (first | (apply Plan.chain_skip rfl rfl; simp only [Act.put, List.setIfInBounds_toArray, List.set_cons_zero, List.set_cons_succ]) | (apply Plan.chain_det rfl rfl; (· intro w' hb; obtain ⟨hcl, hfz⟩ := bcellB hb; go_simp; rfl); simp only [Act.put, List.setIfInBounds_toArray, List.set_cons_zero, List.set_cons_succ]))
  refine Plan.chain_call 11 #[.agg #[.slice fa p.funcs.length fc, .slice ga p.globals.length gc, .slice la p.layouts.length lc, .int .i64 p.main]] (fun v w' => (∃ q, v = .bool (eqC p q) ∧ Prn p 0 q) ∧ Below W.heap.size W w') rfl rfl rfl (by go_simp) ?_ (fun v w' h => h.2) (fun va w2 h => ?_)
  · refine (clean_yes lo _ _ _ p w1 (HPW.out.below HB1.out) HV.out).mono ?_
    rintro e w' ⟨q, rfl, hpr, hb⟩
    exact ⟨_, rfl, ⟨q, rfl, hpr⟩, HB1.out.trans (hb.mono HB1.out.size)⟩
  obtain ⟨⟨q, rfl, hpr⟩, hb2⟩ := h
  simp only [Act.put, List.setIfInBounds_toArray, List.set_cons_zero, List.set_cons_succ]
  have HB2 := hid hb2
  have HPR := hid hpr
  clear hpr
  obtain ⟨B, hB⟩ : ∃ B, eqC p q = B := ⟨_, rfl⟩
  have HB := hid hB
  rw [hB]
  clear hB
  clear hb2
  repeat (first | (apply Plan.chain_skip rfl rfl; simp only [Act.put, List.setIfInBounds_toArray, List.set_cons_zero, List.set_cons_succ]) | (apply Plan.chain_det rfl rfl; (· intro w' hb; obtain ⟨hcl, hfz⟩ := bcellB hb; go_simp; rfl); simp only [Act.put, List.setIfInBounds_toArray, List.set_cons_zero, List.set_cons_succ]))
  refine Plan.chain_call 12 #[.agg #[.slice fa p.funcs.length fc, .slice ga p.globals.length gc, .slice la p.layouts.length lc, .int .i64 p.main]] (fun v w' => v = .bool B ∧ Below W.heap.size W w') rfl rfl rfl (by go_simp) ?_ (fun v w' h => h.2) (fun va w3 h => ?_)
  · refine (rclean_yes lo _ _ _ p w2 (HPW.out.below HB2.out) HWF.out HV.out).mono ?_
    rintro e w' ⟨q3, rfl, hpr3, hb⟩
    have hqq := hpr3.unique HPR.out
    exact ⟨_, rfl, by rw [hqq, eqC_comm, HB.out], HB2.out.trans (hb.mono HB2.out.size)⟩
  obtain ⟨rfl, hb3⟩ := h
  simp only [Act.put, List.setIfInBounds_toArray, List.set_cons_zero, List.set_cons_succ]
  have HB3 := hid hb3
  clear hb3
  repeat (first | (apply Plan.chain_skip rfl rfl; simp only [Act.put, List.setIfInBounds_toArray, List.set_cons_zero, List.set_cons_succ]) | (apply Plan.chain_det rfl rfl; (· intro w' hb; obtain ⟨hcl, hfz⟩ := bcellB hb; go_simp; rfl); simp only [Act.put, List.setIfInBounds_toArray, List.set_cons_zero, List.set_cons_succ]))
  refine Plan.chain_call 13 #[.agg #[.slice fa p.funcs.length fc, .slice ga p.globals.length gc, .slice la p.layouts.length lc, .int .i64 p.main]] (fun v w' => v = .bool true ∧ Below W.heap.size W w') rfl rfl rfl (by go_simp) ?_ (fun v w' h => h.2) (fun va w4 h => ?_)
  · refine (valid_calls lo _ _ _ p w3 (HPW.out.below HB3.out)).mono ?_
    rw [HV.out]
    rintro e w' ⟨rfl, hb⟩
    exact ⟨_, rfl, rfl, HB3.out.trans (hb.mono HB3.out.size)⟩
  obtain ⟨rfl, hb4⟩ := h
  simp only [Act.put, List.setIfInBounds_toArray, List.set_cons_zero, List.set_cons_succ]
  have HB4 := hid hb4
  clear hb4
  repeat (first | (apply Plan.chain_skip rfl rfl; simp only [Act.put, List.setIfInBounds_toArray, List.set_cons_zero, List.set_cons_succ]) | (apply Plan.chain_det rfl rfl; (· intro w' hb; obtain ⟨hcl, hfz⟩ := bcellB hb; go_simp; rfl); simp only [Act.put, List.setIfInBounds_toArray, List.set_cons_zero, List.set_cons_succ]))
  refine Plan.chain_call 10 #[.agg #[.slice fa p.funcs.length fc, .slice ga p.globals.length gc, .slice la p.layouts.length lc, .int .i64 p.main]] (fun v w' => (∃ f1 f2 f3 g1 g2 g3 l1 l2 l3 q2, v = .agg #[.slice f1 f2 f3, .slice g1 g2 g3, .slice l1 l2 l3, .int .i64 q2.main] ∧ (Prn p 0 q2 ∧ Below w4.heap.size w4 w') ∧ ProgAt 0 w' (.slice f1 f2 f3) (.slice g1 g2 g3) (.slice l1 l2 l3) q2) ∧ Below W.heap.size W w') rfl rfl rfl (by go_simp) ?_ (fun v w' h => h.2) (fun va w5 h => ?_)
  · refine (rprune_yes lo _ _ _ p w4 (HPW.out.below HB4.out) HWF.out HV.out).mono ?_
    rintro e w' ⟨uf, ug, ul, q2, rfl, hpr, hat, hb⟩
    obtain ⟨_, _, _, _, _, rfl, -⟩ := hat.funcs.open
    obtain ⟨_, _, _, _, rfl, -⟩ := hat.globs.open
    obtain ⟨_, _, _, _, _, rfl, -⟩ := hat.lays.open
    exact ⟨_, rfl, ⟨_, _, _, _, _, _, _, _, _, q2, rfl, ⟨hpr, hb⟩, hat⟩, HB4.out.trans (hb.mono HB4.out.size)⟩
  obtain ⟨⟨x1, x2, x3, y1, y2, y3, z1, z2, z3, q2, rfl, ⟨hpr2, hbx4⟩, hat4⟩, hb5⟩ := h
  simp only [Act.put, List.setIfInBounds_toArray, List.set_cons_zero, List.set_cons_succ]
  have HB5 := hid hb5
  have HAT4 := hid hat4
  have HPR2 := hid hpr2
  have HBX4 := hid hbx4
  clear hat4 hpr2 hbx4
  clear hb5
  repeat (first | (apply Plan.chain_skip rfl rfl; simp only [Act.put, List.setIfInBounds_toArray, List.set_cons_zero, List.set_cons_succ]) | (apply Plan.chain_det rfl rfl; (· intro w' hb; obtain ⟨hcl, hfz⟩ := bcellB hb; go_simp; rfl); simp only [Act.put, List.setIfInBounds_toArray, List.set_cons_zero, List.set_cons_succ]))
  refine Plan.chain_call 11 #[.agg #[.slice x1 x2 x3, .slice y1 y2 y3, .slice z1 z2 z3, .int .i64 q2.main]] (fun v w' => v = .bool true ∧ Below W.heap.size W w') rfl rfl rfl (by go_simp) ?_ (fun v w' h => h.2) (fun va w6 h => ?_)
  · have hok := HPR2.out.ok HV.out (fun i hi => by omega)
    refine (clean_yes 0 _ _ _ q2 w5 HAT4.out hok.valid).mono ?_
    rintro e w' ⟨q3, rfl, hpr3, hb⟩
    have hqq : q2 = q3 := (hpr3.unique (Prn.self hok.fix _ 0 (Nat.le_refl _))).symm
    exact ⟨_, rfl, by rw [eqC_true hqq], HB5.out.trans (hb.mono HB5.out.size)⟩
  obtain ⟨rfl, hb6⟩ := h
  simp only [Act.put, List.setIfInBounds_toArray, List.set_cons_zero, List.set_cons_succ]
  have HB6 := hid hb6
  clear hb6
  repeat (first | (apply Plan.chain_skip rfl rfl; simp only [Act.put, List.setIfInBounds_toArray, List.set_cons_zero, List.set_cons_succ]) | (apply Plan.chain_det rfl rfl; (· intro w' hb; obtain ⟨hcl, hfz⟩ := bcellB hb; go_simp; rfl); simp only [Act.put, List.setIfInBounds_toArray, List.set_cons_zero, List.set_cons_succ]))
  refine Plan.chain_nil ?_
  go_wp2_with fail
  go_ret
  exact ⟨rfl, HBW.out.trans (HB6.out.mono HBW.out.size)⟩

set_option maxRecDepth 100000 in
set_option maxHeartbeats 8000000 in
theorem pclean_no (lo : Nat) (vf vg vl : Value) (p : Prg) (w : World) (hp : ProgAt lo w vf vg vl p) (hwf : PrgWf p) (hv : validB p = false) :
    Calls Tryz.prog 4 #[.agg #[vf, vg, vl, .int .i64 p.main]] w fun e w' => e = .returned (.bool true) ∧ Below w.heap.size w w' := by
  have HP := hid hp
  have HV := hid hv
  have HWF := hid hwf
  obtain ⟨fa, fc, _, _, _, rfl, -⟩ := hp.funcs.open
  obtain ⟨ga, gc, _, _, rfl, -⟩ := hp.globs.open
  obtain ⟨la, lc, _, _, _, rfl, -⟩ := hp.lays.open
  clear hp hv hwf
  go_enter Tryz.func4, Tryz.ntmps4
  go_wp2_with fail
  generalize hW : World.alloc _ _ = W
  have hbx := show BoxAt W w.heap.size 26 [.slice fa p.funcs.length fc, .slice ga p.globals.length gc, .slice la p.layouts.length lc, .int .i64 p.main] by rw [← hW]; exact BoxAt.new _ _ _ _ _ rfl rfl
  have hbW : Below w.heap.size w W := by rw [← hW]; exact (Below.refl _ _).alloc (Nat.le_refl _) _
  have HBW := hid hbW
  have c0 := hbx.cell 0 _ rfl
  have c1 := hbx.cell 1 _ rfl
  have c2 := hbx.cell 2 _ rfl
  have c3 := hbx.cell 3 _ rfl
  have s1 := hbx.lt
  have HPW := hid (HP.out.below hbW)
  clear hW hbW hbx
  refine Plan.wp_chain planLCn W.heap.size (by kernel_rfl) rfl (by kernel_rfl) (by kernel_rfl) ?_
  repeat (first | (apply Plan.chain_skip rfl rfl; simp only [Act.put, List.setIfInBounds_toArray, List.set_cons_zero, List.set_cons_succ]) | (apply Plan.chain_det rfl rfl; (· intro w' hb; obtain ⟨hcl, hfz⟩ := bcellB hb; go_simp; rfl); simp only [Act.put, List.setIfInBounds_toArray, List.set_cons_zero, List.set_cons_succ]))
  refine Plan.chain_call 6 #[] (fun v w' => v = .bool true ∧ Below W.heap.size W w') rfl rfl rfl (by go_simp) ?_ (fun v w' h => h.2) (fun va w1 h => ?_)
  · refine (awake15_calls W.drew).mono ?_
    rintro e w' ⟨rfl, hb⟩
    exact ⟨_, rfl, rfl, (Below.refl _ _).drew.trans hb⟩
  obtain ⟨rfl, hb1⟩ := h
  simp only [Act.put, List.setIfInBounds_toArray, List.set_cons_zero, List.set_cons_succ]
  have HB1 := hid hb1
  clear hb1
  repeat (first | (apply Plan.chain_skip rfl rfl; simp only [Act.put, List.setIfInBounds_toArray, List.set_cons_zero, List.set_cons_succ]) | (apply Plan.chain_det rfl rfl; (· intro w' hb; obtain ⟨hcl, hfz⟩ := bcellB hb; go_simp; rfl); simp only [Act.put, List.setIfInBounds_toArray, List.set_cons_zero, List.set_cons_succ]))
  refine Plan.chain_call 11 #[.agg #[.slice fa p.funcs.length fc, .slice ga p.globals.length gc, .slice la p.layouts.length lc, .int .i64 p.main]] (fun v w' => v = .bool false ∧ Below W.heap.size W w') rfl rfl rfl (by go_simp) ?_ (fun v w' h => h.2) (fun va w2 h => ?_)
  · refine (clean_no lo _ _ _ p w1 (HPW.out.below HB1.out) HV.out).mono ?_
    rintro e w' ⟨rfl, hb⟩
    exact ⟨_, rfl, rfl, HB1.out.trans (hb.mono HB1.out.size)⟩
  obtain ⟨rfl, hb2⟩ := h
  simp only [Act.put, List.setIfInBounds_toArray, List.set_cons_zero, List.set_cons_succ]
  have HB2 := hid hb2
  clear hb2
  repeat (first | (apply Plan.chain_skip rfl rfl; simp only [Act.put, List.setIfInBounds_toArray, List.set_cons_zero, List.set_cons_succ]) | (apply Plan.chain_det rfl rfl; (· intro w' hb; obtain ⟨hcl, hfz⟩ := bcellB hb; go_simp; rfl); simp only [Act.put, List.setIfInBounds_toArray, List.set_cons_zero, List.set_cons_succ]))
  refine Plan.chain_call 12 #[.agg #[.slice fa p.funcs.length fc, .slice ga p.globals.length gc, .slice la p.layouts.length lc, .int .i64 p.main]] (fun v w' => v = .bool false ∧ Below W.heap.size W w') rfl rfl rfl (by go_simp) ?_ (fun v w' h => h.2) (fun va w3 h => ?_)
  · refine (rclean_no lo _ _ _ p w2 (HPW.out.below HB2.out) HV.out).mono ?_
    rintro e w' ⟨rfl, hb⟩
    exact ⟨_, rfl, rfl, HB2.out.trans (hb.mono HB2.out.size)⟩
  obtain ⟨rfl, hb3⟩ := h
  simp only [Act.put, List.setIfInBounds_toArray, List.set_cons_zero, List.set_cons_succ]
  have HB3 := hid hb3
  clear hb3
  repeat (first | (apply Plan.chain_skip rfl rfl; simp only [Act.put, List.setIfInBounds_toArray, List.set_cons_zero, List.set_cons_succ]) | (apply Plan.chain_det rfl rfl; (· intro w' hb; obtain ⟨hcl, hfz⟩ := bcellB hb; go_simp; rfl); simp only [Act.put, List.setIfInBounds_toArray, List.set_cons_zero, List.set_cons_succ]))
  refine Plan.chain_call 13 #[.agg #[.slice fa p.funcs.length fc, .slice ga p.globals.length gc, .slice la p.layouts.length lc, .int .i64 p.main]] (fun v w' => v = .bool false ∧ Below W.heap.size W w') rfl rfl rfl (by go_simp) ?_ (fun v w' h => h.2) (fun va w4 h => ?_)
  · refine (valid_calls lo _ _ _ p w3 (HPW.out.below HB3.out)).mono ?_
    rw [HV.out]
    rintro e w' ⟨rfl, hb⟩
    exact ⟨_, rfl, rfl, HB3.out.trans (hb.mono HB3.out.size)⟩
  obtain ⟨rfl, hb4⟩ := h
  simp only [Act.put, List.setIfInBounds_toArray, List.set_cons_zero, List.set_cons_succ]
  have HB4 := hid hb4
  clear hb4
  repeat (first | (apply Plan.chain_skip rfl rfl; simp only [Act.put, List.setIfInBounds_toArray, List.set_cons_zero, List.set_cons_succ]) | (apply Plan.chain_det rfl rfl; (· intro w' hb; obtain ⟨hcl, hfz⟩ := bcellB hb; go_simp; rfl); simp only [Act.put, List.setIfInBounds_toArray, List.set_cons_zero, List.set_cons_succ]))
  refine Plan.chain_nil ?_
  go_wp2_with fail
  go_ret
  exact ⟨rfl, HBW.out.trans (HB4.out.mono HBW.out.size)⟩

theorem prunes_calls (lo : Nat) (vf vg vl : Value) (p : Prg) (w : World) (hp : ProgAt lo w vf vg vl p) (hwf : PrgWf p) :
    Calls Tryz.prog 3 #[.agg #[vf, vg, vl, .int .i64 p.main]] w fun e w' => e = .returned (.bool true) ∧ Below w.heap.size w w' := by
  cases hv : validB p with
  | false => exact prunes_no lo vf vg vl p w hp hwf hv
  | true => exact prunes_yes lo vf vg vl p w hp hwf hv

theorem pclean_calls (lo : Nat) (vf vg vl : Value) (p : Prg) (w : World) (hp : ProgAt lo w vf vg vl p) (hwf : PrgWf p) :
    Calls Tryz.prog 4 #[.agg #[vf, vg, vl, .int .i64 p.main]] w fun e w' => e = .returned (.bool true) ∧ Below w.heap.size w w' := by
  cases hv : validB p with
  | false => exact pclean_no lo vf vg vl p w hp hwf hv
  | true => exact pclean_yes lo vf vg vl p w hp hwf hv

end Go.Proofs.YteiohnfmlabelaaGreat
