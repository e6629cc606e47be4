/-
  Text is the document's disassembly: the law, walked.
-/
import Derived.Test.YtihcngjkflaelaaGreatDoorZValid
import Derived.Test.YtihcngjkflaelaaGreatDoorZAwake9
import Derived.Test.YtihcngjkflaelaaGreatDoorZRText9
import Derived.Test.YtihcngjkflaelaaGreatDoorZText9
namespace Go.Proofs.YtihcngjkflaelaaGreatDoor
set_option linter.unusedVariables false
set_option linter.unusedSimpArgs false
open Go.RowKit

noncomputable def planLT : Plan := mkPlan (regionOf Tryz.f3 1) [(0, .new), (3, .new), (7, .new), (9, .new)] []
noncomputable def planLTn : Plan := mkPlan (regionOf Tryz.f3 1) [(0, .new), (3, .new), (6, .skip), (7, .skip), (8, .skip), (9, .skip), (10, .skip)] []

set_option maxRecDepth 100000 in
set_option maxHeartbeats 4000000 in
theorem ltext_yes (lo : Nat) (vf vg vl : Value) (p : Prg) (w : World) (hp : ProgAt lo w vf vg vl p) (hwf : PrgWf p) (hv : validB p = true) (hT : (textL p).length ≤ 140737488355328) (htab : TabOk w) :
    Calls Tryz.prog 3 #[.agg #[vf, vg, vl, .int .i64 p.main]] w fun e w' => e = .returned (.bool true) ∧ Below w.heap.size w w' := by
  have HP := hid hp
  have HV := hid hv
  have HWF := hid hwf
  have HT := hid hT
  have HTAB := hid htab
  obtain ⟨fa, fc, _, _, _, rfl, -⟩ := hp.funcs.open
  obtain ⟨ga, gc, _, _, rfl, -⟩ := hp.globs.open
  obtain ⟨la, lc, _, _, _, rfl, -⟩ := hp.lays.open
  clear hp hv hwf hT htab
  go_enter Tryz.func3, Tryz.ntmps3
  go_wp2_with fail
  generalize hW : World.alloc _ _ = W
  have hbx := show BoxAt W w.heap.size 26 [.slice fa p.funcs.length fc, .slice ga p.globals.length gc, .slice la p.layouts.length lc, .int .i64 p.main] by rw [← hW]; exact BoxAt.new _ _ _ _ _ rfl rfl
  have hbW : Below w.heap.size w W := by rw [← hW]; exact (Below.refl _ _).alloc (Nat.le_refl _) _
  have HBW := hid hbW
  have c0 := hbx.cell 0 _ rfl
  have c1 := hbx.cell 1 _ rfl
  have c2 := hbx.cell 2 _ rfl
  have c3 := hbx.cell 3 _ rfl
  have s1 := hbx.lt
  have HPW := hid (HP.out.below hbW)
  clear hW hbW hbx
  refine Plan.wp_chain planLT W.heap.size (by kernel_rfl) rfl (by kernel_rfl) (by kernel_rfl) ?_
  repeat (first | (apply Plan.chain_skip rfl rfl; simp only [Act.put, List.setIfInBounds_toArray, List.set_cons_zero, List.set_cons_succ]) | (apply Plan.chain_det rfl rfl; (· intro w' hb; obtain ⟨hcl, hfz⟩ := bcellB hb; go_simp; rfl); simp only [Act.put, List.setIfInBounds_toArray, List.set_cons_zero, List.set_cons_succ]))
  refine Plan.chain_call 5 #[] (fun v w' => v = .bool true ∧ Below W.heap.size W w') rfl rfl rfl (by go_simp) ?_ (fun v w' h => h.2) (fun va w1 h => ?_)
  · refine (awake9_calls W.drew).mono ?_
    rintro e w' ⟨rfl, hb⟩
    exact ⟨_, rfl, rfl, (Below.refl _ _).drew.trans hb⟩
  obtain ⟨rfl, hb1⟩ := h
  simp only [Act.put, List.setIfInBounds_toArray, List.set_cons_zero, List.set_cons_succ]
  have HB1 := hid hb1
  clear hb1
  repeat (first | (apply Plan.chain_skip rfl rfl; simp only [Act.put, List.setIfInBounds_toArray, List.set_cons_zero, List.set_cons_succ]) | (apply Plan.chain_det rfl rfl; (· intro w' hb; obtain ⟨hcl, hfz⟩ := bcellB hb; go_simp; rfl); simp only [Act.put, List.setIfInBounds_toArray, List.set_cons_zero, List.set_cons_succ]))
  refine Plan.chain_call 6 #[.agg #[.slice fa p.funcs.length fc, .slice ga p.globals.length gc, .slice la p.layouts.length lc, .int .i64 p.main]] (fun v w' => v = .bool true ∧ Below W.heap.size W w') rfl rfl rfl (by go_simp) ?_ (fun v w' h => h.2) (fun va w2 h => ?_)
  · refine (valid_calls lo _ _ _ p w1 (HPW.out.below HB1.out)).mono ?_
    rw [HV.out]
    rintro e w' ⟨rfl, hb⟩
    exact ⟨_, rfl, rfl, HB1.out.trans (hb.mono HB1.out.size)⟩
  obtain ⟨rfl, hb2⟩ := h
  simp only [Act.put, List.setIfInBounds_toArray, List.set_cons_zero, List.set_cons_succ]
  have HB2 := hid hb2
  clear hb2
  repeat (first | (apply Plan.chain_skip rfl rfl; simp only [Act.put, List.setIfInBounds_toArray, List.set_cons_zero, List.set_cons_succ]) | (apply Plan.chain_det rfl rfl; (· intro w' hb; obtain ⟨hcl, hfz⟩ := bcellB hb; go_simp; rfl); simp only [Act.put, List.setIfInBounds_toArray, List.set_cons_zero, List.set_cons_succ]))
  refine Plan.chain_call 7 #[.agg #[.slice fa p.funcs.length fc, .slice ga p.globals.length gc, .slice la p.layouts.length lc, .int .i64 p.main]] (fun v w' => v = .string ⟨(textL p).toArray⟩ ∧ Below W.heap.size W w') rfl rfl rfl (by go_simp) ?_ (fun v w' h => h.2) (fun va w3 h => ?_)
  · have ht2 : TabOk w2 := fun w' hb' => HTAB.out w' ((bvia HBW.out HB2.out).trans (hb'.mono (bvia HBW.out HB2.out).size))
    refine (text_calls lo _ _ _ p w2 (HPW.out.below HB2.out) HWF.out HV.out HT.out ht2).mono ?_
    rintro e w' ⟨rfl, hb⟩
    exact ⟨_, rfl, rfl, HB2.out.trans (hb.mono HB2.out.size)⟩
  obtain ⟨rfl, hb3⟩ := h
  simp only [Act.put, List.setIfInBounds_toArray, List.set_cons_zero, List.set_cons_succ]
  have HB3 := hid hb3
  clear hb3
  repeat (first | (apply Plan.chain_skip rfl rfl; simp only [Act.put, List.setIfInBounds_toArray, List.set_cons_zero, List.set_cons_succ]) | (apply Plan.chain_det rfl rfl; (· intro w' hb; obtain ⟨hcl, hfz⟩ := bcellB hb; go_simp; rfl); simp only [Act.put, List.setIfInBounds_toArray, List.set_cons_zero, List.set_cons_succ]))
  refine Plan.chain_call 8 #[.agg #[.slice fa p.funcs.length fc, .slice ga p.globals.length gc, .slice la p.layouts.length lc, .int .i64 p.main]] (fun v w' => v = .string ⟨(textL p).toArray⟩ ∧ Below W.heap.size W w') rfl rfl rfl (by go_simp) ?_ (fun v w' h => h.2) (fun va w4 h => ?_)
  · refine (rtext_calls lo _ _ _ p w3 (HPW.out.below HB3.out) HWF.out HV.out HT.out).mono ?_
    rintro e w' ⟨rfl, hb⟩
    exact ⟨_, rfl, rfl, HB3.out.trans (hb.mono HB3.out.size)⟩
  obtain ⟨rfl, hb4⟩ := h
  simp only [Act.put, List.setIfInBounds_toArray, List.set_cons_zero, List.set_cons_succ]
  have HB4 := hid hb4
  clear hb4
  repeat (first | (apply Plan.chain_skip rfl rfl; simp only [Act.put, List.setIfInBounds_toArray, List.set_cons_zero, List.set_cons_succ]) | (apply Plan.chain_det rfl rfl; (· intro w' hb; obtain ⟨hcl, hfz⟩ := bcellB hb; go_simp; rfl); simp only [Act.put, List.setIfInBounds_toArray, List.set_cons_zero, List.set_cons_succ]))
  refine Plan.chain_nil ?_
  go_wp2_with fail
  go_ret
  exact ⟨rfl, bvia HBW.out HB4.out⟩

set_option maxRecDepth 100000 in
set_option maxHeartbeats 4000000 in
theorem ltext_no (lo : Nat) (vf vg vl : Value) (p : Prg) (w : World) (hp : ProgAt lo w vf vg vl p) (hv : validB p = false) :
    Calls Tryz.prog 3 #[.agg #[vf, vg, vl, .int .i64 p.main]] w fun e w' => e = .returned (.bool true) ∧ Below w.heap.size w w' := by
  have HP := hid hp
  have HV := hid hv
  obtain ⟨fa, fc, _, _, _, rfl, -⟩ := hp.funcs.open
  obtain ⟨ga, gc, _, _, rfl, -⟩ := hp.globs.open
  obtain ⟨la, lc, _, _, _, rfl, -⟩ := hp.lays.open
  clear hp hv
  go_enter Tryz.func3, Tryz.ntmps3
  go_wp2_with fail
  generalize hW : World.alloc _ _ = W
  have hbx := show BoxAt W w.heap.size 26 [.slice fa p.funcs.length fc, .slice ga p.globals.length gc, .slice la p.layouts.length lc, .int .i64 p.main] by rw [← hW]; exact BoxAt.new _ _ _ _ _ rfl rfl
  have hbW : Below w.heap.size w W := by rw [← hW]; exact (Below.refl _ _).alloc (Nat.le_refl _) _
  have HBW := hid hbW
  have c0 := hbx.cell 0 _ rfl
  have c1 := hbx.cell 1 _ rfl
  have c2 := hbx.cell 2 _ rfl
  have c3 := hbx.cell 3 _ rfl
  have s1 := hbx.lt
  have HPW := hid (HP.out.below hbW)
  clear hW hbW hbx
  refine Plan.wp_chain planLTn W.heap.size (by kernel_rfl) rfl (by kernel_rfl) (by kernel_rfl) ?_
  repeat (first | (apply Plan.chain_skip rfl rfl; simp only [Act.put, List.setIfInBounds_toArray, List.set_cons_zero, List.set_cons_succ]) | (apply Plan.chain_det rfl rfl; (· intro w' hb; obtain ⟨hcl, hfz⟩ := bcellB hb; go_simp; rfl); simp only [Act.put, List.setIfInBounds_toArray, List.set_cons_zero, List.set_cons_succ]))
  refine Plan.chain_call 5 #[] (fun v w' => v = .bool true ∧ Below W.heap.size W w') rfl rfl rfl (by go_simp) ?_ (fun v w' h => h.2) (fun va w1 h => ?_)
  · refine (awake9_calls W.drew).mono ?_
    rintro e w' ⟨rfl, hb⟩
    exact ⟨_, rfl, rfl, (Below.refl _ _).drew.trans hb⟩
  obtain ⟨rfl, hb1⟩ := h
  simp only [Act.put, List.setIfInBounds_toArray, List.set_cons_zero, List.set_cons_succ]
  have HB1 := hid hb1
  clear hb1
  repeat (first | (apply Plan.chain_skip rfl rfl; simp only [Act.put, List.setIfInBounds_toArray, List.set_cons_zero, List.set_cons_succ]) | (apply Plan.chain_det rfl rfl; (· intro w' hb; obtain ⟨hcl, hfz⟩ := bcellB hb; go_simp; rfl); simp only [Act.put, List.setIfInBounds_toArray, List.set_cons_zero, List.set_cons_succ]))
  refine Plan.chain_call 6 #[.agg #[.slice fa p.funcs.length fc, .slice ga p.globals.length gc, .slice la p.layouts.length lc, .int .i64 p.main]] (fun v w' => v = .bool false ∧ Below W.heap.size W w') rfl rfl rfl (by go_simp) ?_ (fun v w' h => h.2) (fun va w2 h => ?_)
  · refine (valid_calls lo _ _ _ p w1 (HPW.out.below HB1.out)).mono ?_
    rw [HV.out]
    rintro e w' ⟨rfl, hb⟩
    exact ⟨_, rfl, rfl, HB1.out.trans (hb.mono HB1.out.size)⟩
  obtain ⟨rfl, hb2⟩ := h
  simp only [Act.put, List.setIfInBounds_toArray, List.set_cons_zero, List.set_cons_succ]
  have HB2 := hid hb2
  clear hb2
  repeat (first | (apply Plan.chain_skip rfl rfl; simp only [Act.put, List.setIfInBounds_toArray, List.set_cons_zero, List.set_cons_succ]) | (apply Plan.chain_det rfl rfl; (· intro w' hb; obtain ⟨hcl, hfz⟩ := bcellB hb; go_simp; rfl); simp only [Act.put, List.setIfInBounds_toArray, List.set_cons_zero, List.set_cons_succ]))
  refine Plan.chain_nil ?_
  go_wp2_with fail
  go_ret
  exact ⟨rfl, bvia HBW.out HB2.out⟩

theorem ltext_calls (lo : Nat) (vf vg vl : Value) (p : Prg) (w : World) (hp : ProgAt lo w vf vg vl p) (hwf : PrgWf p) (hT : (textL p).length ≤ 140737488355328) (htab : TabOk w) :
    Calls Tryz.prog 3 #[.agg #[vf, vg, vl, .int .i64 p.main]] w fun e w' => e = .returned (.bool true) ∧ Below w.heap.size w w' := by
  cases hv : validB p with
  | false => exact ltext_no lo vf vg vl p w hp hv
  | true => exact ltext_yes lo vf vg vl p w hp hwf hv hT htab

end Go.Proofs.YtihcngjkflaelaaGreatDoor
