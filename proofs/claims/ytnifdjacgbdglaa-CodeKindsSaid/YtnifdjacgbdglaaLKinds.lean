/-
  The statements on Visible, Access and Valid.
-/
import Derived.Test.YtnifdjacgbdglaaAwake9
namespace Go.Proofs.Ytnifdjacgbdglaa
set_option linter.unusedVariables false
set_option linter.unusedSimpArgs false
open Go.RowKit

set_option maxRecDepth 100000 in
set_option maxHeartbeats 4000000 in
theorem lkinds_calls (op : Int) (w : World) : Calls Try.prog 9 #[.int .i64 op] w fun e w' => e = .returned (.bool true) ∧ Below w.heap.size w w' := by
  go_enter Try.func9, Try.ntmps9
  go_wp2_with fail
  refine (awake9_calls _).mono ?_
  rintro e w1 ⟨rfl, hb1⟩
  have HB1 := hid hb1
  clear hb1
  go_wp2_with fail
  refine (visible_calls op _).mono ?_
  rintro e w2 ⟨rfl, rfl⟩
  go_wp2_with fail
  refine (rvisible_calls op _).mono ?_
  rintro e w3 ⟨rfl, rfl⟩
  generalize visB op = vb
  have g1 : (vb == vb) = true := by simp
  go_wp2_with fail
  refine (access_calls op _).mono ?_
  rintro e w4 ⟨rfl, rfl⟩
  go_wp2_with fail
  refine (raccess_calls op _).mono ?_
  rintro e w5 ⟨rfl, rfl⟩
  generalize accB op = ab
  have g2 : (ab == ab) = true := by simp
  go_wp2_with fail
  go_ret
  exact ⟨rfl, HB1.out⟩

noncomputable def planLV : Plan := mkPlan (regionOf Try.f3 1) [(0, .new), (3, .new), (5, .new)] []

set_option maxRecDepth 100000 in
set_option maxHeartbeats 4000000 in
theorem lvalid_calls (lo : Nat) (vf vg vl : Value) (p : Prg) (w : World) (hp : ProgAt lo w vf vg vl p) : Calls Try.prog 3 #[.agg #[vf, vg, vl, .int .i64 p.main]] w fun e w' => e = .returned (.bool true) ∧ Below w.heap.size w w' := by
  have HP := hid hp
  obtain ⟨fa, fc, fb, fo, S, rfl, hz1⟩ := hp.funcs.open
  obtain ⟨ga, gc, gb, go, rfl, hz2⟩ := hp.globs.open
  obtain ⟨la, lc, lb, lo', LS, rfl, hz3⟩ := hp.lays.open
  clear hz1 hz2 hz3 hp
  go_enter Try.func3, Try.ntmps3
  go_wp2_with fail
  generalize hW : World.alloc _ _ = W
  have hbW : Below w.heap.size w W := by rw [← hW]; exact (Below.refl _ _).alloc (Nat.le_refl _) _
  have R1 : RowAt W w.heap.size [.slice fa p.funcs.length fc, .slice ga p.globals.length gc, .slice la p.layouts.length lc, .int .i64 p.main] := by rw [← hW]; exact RowAt.new _ _ _ _ _ rfl rfl
  have a0 := R1.2 0 _ rfl
  have a1 := R1.2 1 _ rfl
  have a2 := R1.2 2 _ rfl
  have a3 := R1.2 3 _ rfl
  have s1 := R1.1
  have HBW := hid hbW
  clear hW R1 hbW
  generalize hvb : validB p = vb
  have HV := hid hvb
  clear hvb
  refine Plan.wp_facts (B := W.heap.size) planLV [(0, valF (.bool true)), (3, valF (.bool vb)), (5, valF (.bool vb))] (by kernel_rfl) rfl (by kernel_rfl) (by kernel_rfl) (Nat.le_refl _) ?_
  refine Plan.runs_call_val (.bool true) 10 #[] rfl rfl _ rfl rfl (fun F w' hb hf => by go_simp) rfl (fun F w' hb hf => ?_) ?_
  · exact awake9_calls w'
  simp only [Act.put, List.setIfInBounds_toArray, List.set_cons_zero, List.set_cons_succ]
  repeat (first | (apply Plan.runs_skip rfl rfl; simp only [Act.put, List.setIfInBounds_toArray, List.set_cons_zero, List.set_cons_succ]) | (apply Plan.runs_det rfl rfl; (· intro F w' hb hf; obtain ⟨hcl, hfz⟩ := bcell hb; go_simp; rfl); simp only [Act.put, List.setIfInBounds_toArray, List.set_cons_zero, List.set_cons_succ]))
  refine Plan.runs_call_val (.bool vb) 11 #[.agg #[.slice fa p.funcs.length fc, .slice ga p.globals.length gc, .slice la p.layouts.length lc, .int .i64 p.main]] rfl rfl _ rfl rfl (fun F w' hb hf => by go_simp) rfl (fun F w' hb hf => ?_) ?_
  · refine (cvalid_calls lo _ _ _ p w' (HP.out.below (HBW.out.trans (hb.mono HBW.out.size)))).mono ?_
    rintro e w'' ⟨rfl, hb'⟩
    exact ⟨by rw [HV.out], hb'⟩
  simp only [Act.put, List.setIfInBounds_toArray, List.set_cons_zero, List.set_cons_succ]
  repeat (first | (apply Plan.runs_skip rfl rfl; simp only [Act.put, List.setIfInBounds_toArray, List.set_cons_zero, List.set_cons_succ]) | (apply Plan.runs_det rfl rfl; (· intro F w' hb hf; obtain ⟨hcl, hfz⟩ := bcell hb; go_simp; rfl); simp only [Act.put, List.setIfInBounds_toArray, List.set_cons_zero, List.set_cons_succ]))
  refine Plan.runs_call_val (.bool vb) 12 #[.agg #[.slice fa p.funcs.length fc, .slice ga p.globals.length gc, .slice la p.layouts.length lc, .int .i64 p.main]] rfl rfl _ rfl rfl (fun F w' hb hf => by go_simp) rfl (fun F w' hb hf => ?_) ?_
  · refine (valid_calls lo _ _ _ p w' (HP.out.below (HBW.out.trans (hb.mono HBW.out.size)))).mono ?_
    rintro e w'' ⟨rfl, hb'⟩
    exact ⟨by rw [HV.out], hb'⟩
  simp only [Act.put, List.setIfInBounds_toArray, List.set_cons_zero, List.set_cons_succ]
  repeat (first | (apply Plan.runs_skip rfl rfl; simp only [Act.put, List.setIfInBounds_toArray, List.set_cons_zero, List.set_cons_succ]) | (apply Plan.runs_det rfl rfl; (· intro F w' hb hf; obtain ⟨hcl, hfz⟩ := bcell hb; go_simp; rfl); simp only [Act.put, List.setIfInBounds_toArray, List.set_cons_zero, List.set_cons_succ]))
  refine Plan.runs_nil (fun F wn hb2 hf => ?_)
  have HBN := hid (HBW.out.trans (hb2.mono HBW.out.size))
  clear hf hb2
  go_wp2_with fail
  go_ret
  exact ⟨rfl, HBN.out⟩

end Go.Proofs.Ytnifdjacgbdglaa
