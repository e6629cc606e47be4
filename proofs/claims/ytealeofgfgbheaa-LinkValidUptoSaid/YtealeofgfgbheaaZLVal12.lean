/-
  LinkValid: the law, walked.
-/
import Derived.Test.YtealeofgfgbheaaZLkS
import Derived.Test.YtealeofgfgbheaaZLkV
import Derived.Test.YtealeofgfgbheaaZAwk12
import Derived.Test.YtealeofgfgbheaaZCopy
import Derived.Test.YtealeofgfgbheaaZLkR
namespace Go.Proofs.Ytealeofgfgbheaa
set_option linter.unusedVariables false
set_option linter.unusedSimpArgs false
open Go.RowKit

noncomputable def planLV : Plan := mkPlan (regionOf Try.f3 3) [(1, .new), (4, .new), (5, .new), (7, .new)] []
noncomputable def planLVg : Plan := mkPlan (regionOf Try.f3 3) [(1, .new), (3, .skip), (4, .skip), (5, .skip), (6, .skip), (7, .skip), (8, .skip)] []

set_option maxRecDepth 100000 in
set_option maxHeartbeats 8000000 in
theorem lvalid12_calls (lo : Nat) (vf vg vl : Value) (p : Prg) (w : World) (hp : ProgAt lo w vf vg vl p) (hwf : PrgWf p) (hN : (p.funcs.flatMap fun f => f.name.data.toList).length ≤ 140737488355328) :
    Calls Try.prog 3 #[.agg #[vf, vg, vl, .int .i64 p.main]] w fun e w' => e = .returned (.bool true) ∧ Below w.heap.size w w' := by
  have HP := hid hp
  have HWF := hid hwf
  have HN := hid hN
  obtain ⟨fa, fc, _, _, _, rfl, -⟩ := hp.funcs.open
  obtain ⟨ga, gc, _, _, rfl, -⟩ := hp.globs.open
  obtain ⟨la, lc, _, _, _, rfl, -⟩ := hp.lays.open
  clear hp hwf hN
  go_enter Try.func3, Try.ntmps3
  go_wp2_with fail
  generalize hW : World.alloc _ _ = W
  have hbx := show BoxAt W w.heap.size 26 [.slice fa p.funcs.length fc, .slice ga p.globals.length gc, .slice la p.layouts.length lc, .int .i64 p.main] by rw [← hW]; exact BoxAt.new _ _ _ _ _ rfl rfl
  have hbW : Below w.heap.size w W := by rw [← hW]; exact (Below.refl _ _).alloc (Nat.le_refl _) _
  have HBX := hid hbx
  have HBW := hid hbW
  clear hW hbx hbW
  refine (awake12_calls W).mono ?_
  rintro e w1 ⟨rfl, hb1⟩
  have HB1 := hid (bvia HBW.out hb1)
  have hx1 := HBX.out.below hb1
  have c0 := hx1.cell 0 _ rfl
  have c1 := hx1.cell 1 _ rfl
  have c2 := hx1.cell 2 _ rfl
  have c3 := hx1.cell 3 _ rfl
  have s1 := hx1.lt
  have HP1 := hid (HP.out.below HB1.out)
  clear hx1 hb1
  obtain ⟨gb, hgb⟩ : ∃ gb, greatB p = gb := ⟨_, rfl⟩
  have HGB := hid hgb
  clear hgb
  go_wp2_with fail
  cases gb with
  | true =>
    refine Plan.wp_chain planLVg w1.heap.size (by kernel_rfl) rfl (by kernel_rfl) (by kernel_rfl) ?_
    repeat (first | (apply Plan.chain_skip rfl rfl; simp only [Act.put, List.setIfInBounds_toArray, List.set_cons_zero, List.set_cons_succ]) | (apply Plan.chain_det rfl rfl; (· intro w' hb; obtain ⟨hcl, hfz⟩ := bcellB hb; go_simp; rfl); simp only [Act.put, List.setIfInBounds_toArray, List.set_cons_zero, List.set_cons_succ]))
    refine Plan.chain_call 10 #[.agg #[.slice fa p.funcs.length fc, .slice ga p.globals.length gc, .slice la p.layouts.length lc, .int .i64 p.main]] (fun v w' => v = .bool true ∧ Below w1.heap.size w1 w') rfl rfl rfl (by go_simp) ?_ (fun v w' h => h.2) (fun va w2 h => ?_)
    · refine (greatD_calls lo _ _ _ p w1.drew (HP1.out.below (Below.refl _ _).drew) HWF.out).mono ?_
      rintro e w' ⟨rfl, hb⟩
      rw [HGB.out]
      exact ⟨_, rfl, rfl, (Below.refl _ _).drew.trans hb⟩
    obtain ⟨rfl, hb2⟩ := h
    simp only [Act.put, List.setIfInBounds_toArray, List.set_cons_zero, List.set_cons_succ]
    have HB2 := hid hb2
    clear hb2
    repeat (first | (apply Plan.chain_skip rfl rfl; simp only [Act.put, List.setIfInBounds_toArray, List.set_cons_zero, List.set_cons_succ]) | (apply Plan.chain_det rfl rfl; (· intro w' hb; obtain ⟨hcl, hfz⟩ := bcellB hb; go_simp; rfl); simp only [Act.put, List.setIfInBounds_toArray, List.set_cons_zero, List.set_cons_succ]))
    refine Plan.chain_nil ?_
    go_wp2_with fail
    go_ret
    exact ⟨rfl, HB1.out.trans (HB2.out.mono HB1.out.size)⟩
  | false =>
    refine Plan.wp_chain planLV w1.heap.size (by kernel_rfl) rfl (by kernel_rfl) (by kernel_rfl) ?_
    repeat (first | (apply Plan.chain_skip rfl rfl; simp only [Act.put, List.setIfInBounds_toArray, List.set_cons_zero, List.set_cons_succ]) | (apply Plan.chain_det rfl rfl; (· intro w' hb; obtain ⟨hcl, hfz⟩ := bcellB hb; go_simp; rfl); simp only [Act.put, List.setIfInBounds_toArray, List.set_cons_zero, List.set_cons_succ]))
    refine Plan.chain_call 10 #[.agg #[.slice fa p.funcs.length fc, .slice ga p.globals.length gc, .slice la p.layouts.length lc, .int .i64 p.main]] (fun v w' => v = .bool false ∧ Below w1.heap.size w1 w') rfl rfl rfl (by go_simp) ?_ (fun v w' h => h.2) (fun va w2 h => ?_)
    · refine (greatD_calls lo _ _ _ p w1.drew (HP1.out.below (Below.refl _ _).drew) HWF.out).mono ?_
      rintro e w' ⟨rfl, hb⟩
      rw [HGB.out]
      exact ⟨_, rfl, rfl, (Below.refl _ _).drew.trans hb⟩
    obtain ⟨rfl, hb2⟩ := h
    simp only [Act.put, List.setIfInBounds_toArray, List.set_cons_zero, List.set_cons_succ]
    have HB2 := hid hb2
    clear hb2
    repeat (first | (apply Plan.chain_skip rfl rfl; simp only [Act.put, List.setIfInBounds_toArray, List.set_cons_zero, List.set_cons_succ]) | (apply Plan.chain_det rfl rfl; (· intro w' hb; obtain ⟨hcl, hfz⟩ := bcellB hb; go_simp; rfl); simp only [Act.put, List.setIfInBounds_toArray, List.set_cons_zero, List.set_cons_succ]))
    refine Plan.chain_call 12 #[.agg #[.slice fa p.funcs.length fc, .slice ga p.globals.length gc, .slice la p.layouts.length lc, .int .i64 p.main]] (fun v w' => (∃ f1 f2 f3 g1 g2 g3 l1 l2 l3, v = .agg #[.slice f1 f2 f3, .slice g1 g2 g3, .slice l1 l2 l3, .int .i64 p.main] ∧ True ∧ ProgAt 0 w' (.slice f1 f2 f3) (.slice g1 g2 g3) (.slice l1 l2 l3) p) ∧ Below w1.heap.size w1 w') rfl rfl rfl (by go_simp) ?_ (fun v w' h => h.2) (fun va w3 h => ?_)
    · refine (copy_calls lo _ _ _ p w2 (HP1.out.below HB2.out) HWF.out).mono ?_
      rintro e w' ⟨uf, ug, ul, rfl, hop, hb⟩
      have hat := OwnPrg.at (lo := 0) hop (Nat.zero_le _) HWF.out
      obtain ⟨_, _, _, _, _, rfl, -⟩ := hat.funcs.open
      obtain ⟨_, _, _, _, rfl, -⟩ := hat.globs.open
      obtain ⟨_, _, _, _, _, rfl, -⟩ := hat.lays.open
      exact ⟨_, rfl, ⟨_, _, _, _, _, _, _, _, _, rfl, trivial, hat⟩, HB2.out.trans (hb.mono HB2.out.size)⟩
    obtain ⟨⟨f1, f2, f3, g1, g2, g3, l1, l2, l3, rfl, -, hat2⟩, hb3⟩ := h
    simp only [Act.put, List.setIfInBounds_toArray, List.set_cons_zero, List.set_cons_succ]
    have HB3 := hid hb3
    have HAT3 := hid hat2
    clear hat2 hb3
    repeat (first | (apply Plan.chain_skip rfl rfl; simp only [Act.put, List.setIfInBounds_toArray, List.set_cons_zero, List.set_cons_succ]) | (apply Plan.chain_det rfl rfl; (· intro w' hb; obtain ⟨hcl, hfz⟩ := bcellB hb; go_simp; rfl); simp only [Act.put, List.setIfInBounds_toArray, List.set_cons_zero, List.set_cons_succ]))
    refine Plan.chain_call 11 #[.agg #[.slice f1 f2 f3, .slice g1 g2 g3, .slice l1 l2 l3, .int .i64 p.main]] (fun v w' => v = .bool (partB p) ∧ Below w1.heap.size w1 w') rfl rfl rfl (by go_simp) ?_ (fun v w' h => h.2) (fun va w4 h => ?_)
    · refine (lpart_calls 0 _ _ _ p w3 HAT3.out HWF.out).mono ?_
      rintro e w' ⟨rfl, hb⟩
      exact ⟨_, rfl, rfl, HB3.out.trans (hb.mono HB3.out.size)⟩
    obtain ⟨rfl, hb4⟩ := h
    simp only [Act.put, List.setIfInBounds_toArray, List.set_cons_zero, List.set_cons_succ]
    have HB4 := hid hb4
    clear hb4
    repeat (first | (apply Plan.chain_skip rfl rfl; simp only [Act.put, List.setIfInBounds_toArray, List.set_cons_zero, List.set_cons_succ]) | (apply Plan.chain_det rfl rfl; (· intro w' hb; obtain ⟨hcl, hfz⟩ := bcellB hb; go_simp; rfl); simp only [Act.put, List.setIfInBounds_toArray, List.set_cons_zero, List.set_cons_succ]))
    refine Plan.chain_call 13 #[.agg #[.slice fa p.funcs.length fc, .slice ga p.globals.length gc, .slice la p.layouts.length lc, .int .i64 p.main]] (fun v w' => v = .bool (partB p) ∧ Below w1.heap.size w1 w') rfl rfl rfl (by go_simp) ?_ (fun v w' h => h.2) (fun va w5 h => ?_)
    · refine (rlpart_calls lo _ _ _ p w4 (HP1.out.below HB4.out) HWF.out HN.out).mono ?_
      rintro e w' ⟨rfl, hb⟩
      exact ⟨_, rfl, rfl, HB4.out.trans (hb.mono HB4.out.size)⟩
    obtain ⟨rfl, hb5⟩ := h
    simp only [Act.put, List.setIfInBounds_toArray, List.set_cons_zero, List.set_cons_succ]
    have HB5 := hid hb5
    clear hb5
    obtain ⟨pb, hpb⟩ : ∃ pb, partB p = pb := ⟨_, rfl⟩
    rw [hpb]
    clear hpb
    cases pb <;>
      (repeat (first | (apply Plan.chain_skip rfl rfl; simp only [Act.put, List.setIfInBounds_toArray, List.set_cons_zero, List.set_cons_succ]) | (apply Plan.chain_det rfl rfl; (· intro w' hb; obtain ⟨hcl, hfz⟩ := bcellB hb; go_simp; rfl); simp only [Act.put, List.setIfInBounds_toArray, List.set_cons_zero, List.set_cons_succ]))
       refine Plan.chain_nil ?_
       go_wp2_with fail
       go_ret
       exact ⟨rfl, HB1.out.trans (HB5.out.mono HB1.out.size)⟩)

end Go.Proofs.Ytealeofgfgbheaa
